/- The contracts of heap.Chain and of the reference's SamePlaces. No condition. -/
import Derived.Test.YtbibmgcklilpmaaChainPlain
import Derived.Test.YtbibmgcklilpmaaSeen
import Derived.Test.YtbibmgcklilpmaaHeapTids
import Derived.Test.YtbibmgcklilpmaaHeapWalk4
namespace Go.Proofs.Ytbibmgcklilpmaa
open Go.RowKit Go.Lap

theorem wf_i64' {z : Int} (h : -9223372036854775808 ≤ z ∧ z < 9223372036854775808) : (Lit.int .i64 z).wf = true := WalkArith.wf_i64 (by omega)

theorem far_bounds {pg sl : Int} (h : farB pg sl = false) : -1 ≤ pg ∧ pg < 65536 ∧ -1 ≤ sl ∧ sl < 65536 := by
  unfold farB at h
  split at h
  · have := of_decide_eq_false h
    omega
  · have := of_decide_eq_false h
    omega

theorem tup_wf {t : Tup} (h : t.Ok) : Wf (t.pg, t.sl) := by
  have := far_bounds (of_decide_eq_true h.right).2.2.2.1
  exact ⟨wf_i64' (by show _ ≤ t.pg ∧ _; omega), wf_i64' (by show _ ≤ t.sl ∧ _; omega)⟩

theorem HeapIs.ok {w : World} {hb pb : Nat} {F : Nat → Prop} {H : List (List (Option Tup))} (h : HeapIs w hb pb F H) {pg sl : Int} {t : Tup} (hg : hGet H pg sl = some t) : t.Ok := by
  obtain ⟨v, ps, rb, h⟩ := h
  have h0 : ¬ (pg < 0 ∨ (H.length : Int) ≤ pg) := fun x => by rw [hGet_out x] at hg; cases hg
  obtain ⟨k, rfl⟩ := Int.eq_ofNat_of_zero_le (show 0 ≤ pg by omega)
  obtain ⟨T, hT⟩ : ∃ T, H[k]? = some T := ⟨_, List.getElem?_eq_getElem (show k < H.length by omega)⟩
  rw [hGet_in sl hT] at hg
  obtain ⟨s0, hs⟩ := tupAt_some hg
  obtain ⟨p, _, hp⟩ := h.pg k T hT
  exact hp.ok hs

theorem drewN_two (w : World) (k n : Nat) : (w.drewN k).drewN n = w.drewN (k + n) := by simp [World.drewN, Nat.add_assoc]

def sliceLen : Value → Nat
  | .slice _ n _ => n
  | _ => 0

/-- In the midst of Chain: where the place lies (B), the map (B + 1), the row. -/
structure ChainW (w wr : World) (v : Value) (out : List (Int × Int)) (p : Int × Int) : Prop where
  quiet : Quiet w wr
  box : wr.heap[w.heap.size]? = some (.cells #[.int .i64 p.1, .int .i64 p.2] 51 (0, 0))
  seen : SeenAt wr (w.heap.size + 1) out
  row : TidsAt wr v out
  own : ∀ k, v.ownBlock = some k → w.heap.size + 1 < k
  wf : Wf p

section
variable {w wr w' : World} {v : Value} {out : List (Int × Int)} {p : Int × Int}
/-- What is neither the map nor the row is as it was. -/
theorem ChainW.still {w2 w3 w4 : World} {v' : Value} {j : Nat} {o : Obj} (h : ChainW w w2 v out p) (ho : Only (· = w.heap.size + 1) w2 w3) (hg : Grew (w3.alloc (.cells #[.int .i64 p.1, .int .i64 p.2] 51)) w4 51 2 v v' (out.length + 1) (tidsV out ++ tidsV [p]))
    (hj : w2.heap[j]? = some o) (hn : j ≠ w.heap.size + 1) (hv : ∀ k, v.ownBlock = some k → k ≠ j) : w4.heap[j]? = some o :=
  hg.only.get (alloc_old (ho.get hj hn) _) (fun e => hv j e rfl)

theorem ChainW.step {w2 w3 w4 : World} {v' : Value} {q : Int × Int} (h : ChainW w w2 v out p) (hs : SeenAt w3 (w.heap.size + 1) (out ++ [p])) (ho : Only (· = w.heap.size + 1) w2 w3)
    (hg : Grew (w3.alloc (.cells #[.int .i64 p.1, .int .i64 p.2] 51)) w4 51 2 v v' (out.length + 1) (tidsV out ++ tidsV [p])) (hq : Wf q) :
    ChainW w ((w4.setCell ⟨w.heap.size, 0, none⟩ (.int .i64 q.1)).setCell ⟨w.heap.size, 1, none⟩ (.int .i64 q.2)) v' (out ++ [p]) q := by
  have hown := h.own
  have hb := h.still ho hg h.box (by omega) (fun k e => by have := hown k e; omega)
  have hsz := h.seen.lt
  have hz3 := ho.size
  have hset : Only (· = w.heap.size) w4 ((w4.setCell ⟨w.heap.size, 0, none⟩ (.int .i64 q.1)).setCell ⟨w.heap.size, 1, none⟩ (.int .i64 q.2)) := ((Only.refl (· = w.heap.size) w4).setCell (p := ⟨w.heap.size, 0, none⟩) (fun _ => rfl) _).setCell (p := ⟨w.heap.size, 1, none⟩) (fun _ => rfl) _
  have hown' : ∀ k, v'.ownBlock = some k → w.heap.size + 1 < k := fun k e => by
    rcases hg.loc with x | x
    · rw [x] at e; exact hown k e
    · rw [x] at e; injection e with e; simp only [World.size_alloc] at e; omega
  refine ⟨?_, ?_, ?_, ?_, hown', hq⟩
  · exact (((h.quiet.trans' ho (fun k hk e => by omega)).alloc _).trans' hg.only (fun k hk e => by have := hown k e; omega)).trans' hset (fun k hk e => by omega)
  · rw [set_same (set_same hb 0 _) 1 _]; rfl
  · exact ((hs.kept ((Only.refl (fun _ => False) w3).alloc _) (fun x => x)).kept hg.only (fun e => by have := hown _ e; omega)).kept hset (by omega)
  · unfold TidsAt
    rw [List.length_append, tidsV_append]
    exact owns_kept hg.own hset (fun k e x => by have := hown' k e; omega)

theorem ChainW.quietly (h : ChainW w wr v out p) (hq : Quiet wr w') : ChainW w w' v out p :=
  ⟨h.quiet.trans hq, hq.get h.box (fun x => x), h.seen.kept hq (fun x => x), owns_kept h.row hq (fun _ _ x => x), h.own, h.wf⟩
end

/-- What Chain tells. -/
def ChainPost (w : World) (l : List (Int × Int)) (e : Ending) (w' : World) : Prop := ∃ v, e = .returned v ∧ Quiet w w' ∧ (∀ k, v.ownBlock = some k → w.heap.size ≤ k) ∧ TidsAt w' v l

set_option maxHeartbeats 1000000 in
set_option maxRecDepth 100000 in
theorem chain_walk (h0 : Option Addr) (H : List (List (Option Tup))) (p0 : Int × Int) (w : World) (hp0 : Wf p0) (hfit : ∀ T ∈ H, Fits T) (hl : usedH H ≤ 1000000)
    (hg0 : ∀ (W : World) (p : Int × Int), Quiet w W → hGet H p.1 p.2 = none → Calls Try.prog 49 #[.pointer h0, .agg #[.int .i64 p.1, .int .i64 p.2]] W (GetNone W))
    (hg1 : ∀ (W : World) (p : Int × Int) (t : Tup), Quiet w W → hGet H p.1 p.2 = some t → t.Ok ∧ Calls Try.prog 49 #[.pointer h0, .agg #[.int .i64 p.1, .int .i64 p.2]] W (GetSome W t)) :
    Calls Try.prog 52 #[.pointer h0, .agg #[.int .i64 p0.1, .int .i64 p0.2]] w (ChainPost w (chainH H p0)) := by
  have HG0 := Lib.hid hg0
  have HG1 := Lib.hid hg1
  have HF := Lib.hid hfit
  have hmm := @run_makeMap Try.prog
  have HS : Hid (ChainW w ((w.alloc (.cells #[.int .i64 p0.1, .int .i64 p0.2] 51)).alloc (.map #[] 0)) (.slice none 0 0) [] p0) := by
    refine ⟨((Only.refl _ _).alloc _).alloc _, alloc_old (alloc_new _ _) _, ?_, World.ownsRow_nil _ _ _ _, (fun _ x => by cases x), hp0⟩
    have := seen_made (w.alloc (.cells #[.int .i64 p0.1, .int .i64 p0.2] 51))
    rw [World.size_alloc] at this
    exact this
  clear hg0 hg1 hfit hp0
  go_enter Try.func52, Try.ntmps52
  go_wp2_with fail
  go_loopw [5, 7, 8] (fun v _ _ wr => ∃ (out : List (Int × Int)) (p : Int × Int), ChainW w wr v out p ∧ ChainAt H p0 out p) (fun v _ _ _ => usedH H + 1 - sliceLen v)
  case atStart => exact ⟨[], p0, HS.out, ChainAt.start H p0⟩
  case round =>
    obtain ⟨out, p, hW, hC⟩ := hrel
    clear HS
    have hle := hC.le HF.out
    have HW := Lib.hid hW
    have HC := Lib.hid hC
    obtain ⟨c0, c1⟩ : wr.cell? ⟨w.heap.size, 0, none⟩ = some (.int .i64 p.1) ∧ wr.cell? ⟨w.heap.size, 1, none⟩ = some (.int .i64 p.2) := ⟨by rw [cell_of hW.box]; rfl, by rw [cell_of hW.box]; rfl⟩
    obtain ⟨A, c, hv, hc, hcm, _⟩ := tids_form hW.row
    subst hv
    clear hW hC
    by_cases hin : p ∈ out
    · go_wp2_with (first | (at_lookup; refine seen_look rfl _ _ rfl rfl rfl HW.out.seen HW.out.wf (decide_eq_true hin) ?_) | fail)
      go_wp2
      go_ret
      exact ⟨_, rfl, HW.out.quiet, fun k e => by have := HW.out.own k e; omega, by rw [HC.out.seen hin]; exact HW.out.row⟩
    · rcases hg : hGet H p.1 p.2 with _ | t
      · have HGT := Lib.hid (HG0.out wr p HW.out.quiet hg)
        go_wp2_with (first | (at_lookup; refine seen_look rfl _ _ rfl rfl rfl HW.out.seen HW.out.wf (decide_eq_false hin) ?_) | fail)
        go_wp2_with fail
        refine HGT.out.mono ?_
        rintro e w2 ⟨rfl, hq2⟩
        have HW2 := Lib.hid ((HW.out.quietly hq2).quietly ((Only.refl (fun _ => False) w2).alloc (.cells #[.int .u64 0, .int .u64 0, .int .u64 0, .int .i64 0, .int .i64 0, .slice none 0 0] 54)))
        clear hq2 HGT HW c0 c1
        go_wp2
        go_ret
        exact ⟨_, rfl, HW2.out.quiet, fun k e => by have := HW2.out.own k e; omega, by rw [HC.out.gone hg]; exact HW2.out.row⟩
      · have HGT := Lib.hid (HG1.out wr p t HW.out.quiet hg)
        go_wp2_with (first | (at_lookup; refine seen_look rfl _ _ rfl rfl rfl HW.out.seen HW.out.wf (decide_eq_false hin) ?_) | fail)
        go_wp2_with fail
        refine HGT.out.2.mono ?_
        rintro e w2 ⟨A2, c2, rfl, hf2⟩
        unfold tupV
        have HW2 := Lib.hid ((HW.out.quietly hf2.quiet).quietly ((Only.refl (fun _ => False) w2).alloc (.cells #[.int .u64 (t.row : Int), .int .u64 (t.xmin : Int), .int .u64 (t.xmax : Int), .int .i64 t.pg, .int .i64 t.sl, .slice A2 t.data.length c2] 54)))
        have hT2 := alloc_new w2 (.cells #[.int .u64 (t.row : Int), .int .u64 (t.xmin : Int), .int .u64 (t.xmax : Int), .int .i64 t.pg, .int .i64 t.sl, .slice A2 t.data.length c2] 54)
        have HT2 := Lib.hid hT2
        have HOK := Lib.hid HGT.out.1
        have hz2 : w.heap.size + 1 < w2.heap.size := by have := (HW.out.seen.kept hf2.quiet (fun x => x)).lt; exact this
        clear hf2 HGT HW c0 c1 hT2
        obtain ⟨c0, c1⟩ : (w2.alloc (.cells #[.int .u64 (t.row : Int), .int .u64 (t.xmin : Int), .int .u64 (t.xmax : Int), .int .i64 t.pg, .int .i64 t.sl, .slice A2 t.data.length c2] 54)).cell? ⟨w.heap.size, 0, none⟩ = some (.int .i64 p.1) ∧ (w2.alloc (.cells #[.int .u64 (t.row : Int), .int .u64 (t.xmin : Int), .int .u64 (t.xmax : Int), .int .i64 t.pg, .int .i64 t.sl, .slice A2 t.data.length c2] 54)).cell? ⟨w.heap.size, 1, none⟩ = some (.int .i64 p.2) := ⟨by rw [cell_of HW2.out.box]; rfl, by rw [cell_of HW2.out.box]; rfl⟩
        go_wp2_with (first | (at_mapUpdate; refine seen_put rfl _ _ _ rfl rfl rfl rfl HW2.out.seen HW2.out.wf (by unfold maxLen; omega) ?_) | fail)
        intro w3 hs3 ho3
        have HS3 := Lib.hid hs3
        have HO3 := Lib.hid ho3
        have hb3 := ho3.get HW2.out.box (show ¬ w.heap.size = w.heap.size + 1 by omega)
        have HR3 := Lib.hid (owns_kept (owns_kept HW2.out.row ho3 (fun k e x => by have := HW2.out.own k e; omega)) ((Only.refl (fun _ => False) w3).alloc (.cells #[.int .i64 p.1, .int .i64 p.2] 51)) (fun _ _ x => x))
        clear hs3 ho3 c0 c1
        obtain ⟨c0, c1⟩ : w3.cell? ⟨w.heap.size, 0, none⟩ = some (.int .i64 p.1) ∧ w3.cell? ⟨w.heap.size, 1, none⟩ = some (.int .i64 p.2) := ⟨by rw [cell_of hb3]; rfl, by rw [cell_of hb3]; rfl⟩
        clear hb3
        go_wp2_with (at_builtin; refine app elem_tid rfl (.tmp 24) (.tmp 26) rfl rfl HR3.out rfl (tids_new _ p) (one_tids [p]) (by unfold maxLen; omega) (by omega) ?_)
        intro v4 w4 hg4
        have hb4 := HW2.out.still HO3.out hg4 HW2.out.box (by omega) (fun k e => by have := HW2.out.own k e; omega)
        have ht4 := HW2.out.still HO3.out hg4 HT2.out (by omega) (fun k e => by
          intro x
          subst x
          obtain ⟨d, hd⟩ := own_blk HW2.out.row e
          exact absurd rfl (ne_type hd HT2.out (by decide)))
        have HW4 := Lib.hid (HW2.out.step (q := (t.pg, t.sl)) HS3.out HO3.out hg4 (tup_wf HOK.out))
        clear c0 c1
        obtain ⟨c0, c1⟩ : w4.cell? ⟨w.heap.size, 0, none⟩ = some (.int .i64 p.1) ∧ w4.cell? ⟨w.heap.size, 1, none⟩ = some (.int .i64 p.2) := ⟨by rw [cell_of hb4]; rfl, by rw [cell_of hb4]; rfl⟩
        obtain ⟨d0, d1⟩ : w4.cell? ⟨w2.heap.size, 3, none⟩ = some (.int .i64 t.pg) ∧ w4.cell? ⟨w2.heap.size, 4, none⟩ = some (.int .i64 t.sl) := ⟨by rw [cell_of ht4]; rfl, by rw [cell_of ht4]; rfl⟩
        have fz := fun o => frozen_of hb4 o
        have hv4 : sliceLen v4 = out.length + 1 := by
          obtain ⟨A', c', e', _⟩ := own_form hg4.own
          rw [e']; rfl
        clear hb4 ht4 hg4 HR3 HS3 HO3 HW2 HT2
        go_wp2
        go_roundw
        case rel => exact ⟨out ++ [p], (t.pg, t.sl), HW4.out, HC.out.step HF.out hin hg⟩
        case measure => rw [hv4]; show _ < usedH H + 1 - out.length; omega

theorem heap_chain {w : World} {hb pb : Nat} {F : Nat → Prop} {H : List (List (Option Tup))} (p : Int × Int) (hp : Wf p) (h : HeapIs w hb pb F H) (hfit : ∀ T ∈ H, Fits T) (hl : usedH H ≤ 1000000) :
    Calls Try.prog 52 #[.pointer (some ⟨hb, 0, none⟩), .agg #[.int .i64 p.1, .int .i64 p.2]] w (ChainPost w (chainH H p)) :=
  chain_walk _ H p w hp hfit hl (fun W q hq hg => heap_get_none q.1 q.2 (h.kept hq (fun _ _ x => x)) hg) (fun W q t hq hg => ⟨h.ok hg, heap_get_some q.1 q.2 t (h.kept hq (fun _ _ x => x)) hg⟩)

theorem heap_chain_nil (p : Int × Int) (hp : Wf p) (w : World) :
    Calls Try.prog 52 #[.pointer none, .agg #[.int .i64 p.1, .int .i64 p.2]] w (ChainPost w []) := by
  have e : chainH [] p = [] := by
    unfold chainH
    rw [chainP_succ]
    have : hGet [] p.1 p.2 = none := hGet_out (by simp; omega)
    rw [this]
    simp
  rw [← e]
  exact chain_walk none [] p w hp (fun T hT => by simp at hT) (by show usedH [] ≤ _; exact Nat.zero_le _) (fun W q _ _ => heap_get_nil q.1 q.2 W) (fun W q t _ hg => by rw [hGet_out (by simp; omega)] at hg; cases hg)

set_option maxHeartbeats 1000000 in
set_option maxRecDepth 100000 in
theorem same_places (va vb : Value) (la lb : List (Int × Int)) (w : World) (ha : TidsAt w va la) (hb : TidsAt w vb lb) :
    Calls Try.prog 51 #[va, vb] w fun e w' => e = .returned (.bool (decide (la = lb))) ∧ ∃ n, w' = w.drewN n := by
  obtain ⟨A, ca, rfl, a1, a2, a3⟩ := tids_form ha
  obtain ⟨B, cb, rfl, b1, b2, b3⟩ := tids_form hb
  unfold maxLen at a2 b2
  have HA := Lib.hid a3
  have HB := Lib.hid b3
  clear ha hb a3 b3
  obtain ⟨n, hn⟩ : ∃ n, la.length = n := ⟨_, rfl⟩
  obtain ⟨m, hm⟩ : ∃ m, lb.length = m := ⟨_, rfl⟩
  rw [hn] at a1 ⊢
  rw [hm] at b1 ⊢
  have HN := Lib.hid hn
  have HM := Lib.hid hm
  clear hn hm
  by_cases hl : n = m
  · subst hl
    go_enter Try.func51, Try.ntmps51
    go_wp2_with fail
    go_loopw [13, 5] (fun c _ wr => ∃ i k : Nat, i ≤ n ∧ c = .int .i64 (i : Int) ∧ wr = w.drewN k ∧ ∀ j, j < i → la[j]? = lb[j]?) (fun c _ _ => n - (intOf c).toNat)
    case atStart => exact ⟨0, 0, Nat.zero_le _, rfl, rfl, fun j hj => by omega⟩
    case round =>
      obtain ⟨i, k, hi, rfl, rfl, hj⟩ := hrel
      have HJ := Lib.hid hj
      clear hj
      by_cases hlt : i < n
      · obtain ⟨p, hp⟩ : ∃ p, la[i]? = some p := ⟨_, List.getElem?_eq_getElem (by have := HN.out; omega)⟩
        obtain ⟨q, hq⟩ : ∃ q, lb[i]? = some q := ⟨_, List.getElem?_eq_getElem (by have := HM.out; omega)⟩
        obtain ⟨ga, rfl, p0, p1⟩ := HA.out i p hp
        obtain ⟨gb, rfl, q0, q1⟩ := HB.out i q hq
        have HP := Lib.hid hp
        have HQ := Lib.hid hq
        clear hp hq
        by_cases e0 : p.1 = q.1
        · have d0 : (p.1 != q.1) = false := by simp [e0]
          by_cases e1 : p.2 = q.2
          · have d1 : (p.2 != q.2) = false := by simp [e1]
            have HE := Lib.hid (Prod.ext e0 e1)
            clear e0 e1
            go_wp2_with fail
            go_quiet (fail)
            go_wp2
            go_roundw
            case rel => exact ⟨i + 1, _, by omega, by go_num, rfl, fun j hj => by
              rcases Nat.lt_or_ge j i with x | x
              · exact HJ.out j x
              · have : j = i := by omega
                subst this
                rw [HP.out, HQ.out, HE.out]⟩
            case measure => simp [intOf]; omega
          · have d1 : (p.2 != q.2) = true := by simp [e1]
            have HE : Hid (la ≠ lb) := fun e => by
              have h1 := HP.out
              rw [e, HQ.out] at h1
              injection h1 with h1
              exact e1 (by rw [h1])
            clear e0 e1
            go_wp2_with fail
            go_quiet (fail)
            go_wp2
            go_ret
            exact ⟨by rw [decide_eq_false HE.out]; rfl, _, drewN_two _ _ _⟩
        · have d0 : (p.1 != q.1) = true := by simp [e0]
          have HE : Hid (la ≠ lb) := fun e => by
            have h1 := HP.out
            rw [e, HQ.out] at h1
            injection h1 with h1
            exact e0 (by rw [h1])
          clear e0
          go_wp2_with fail
          go_quiet (fail)
          go_wp2
          go_ret
          exact ⟨by rw [decide_eq_false HE.out]; rfl, _, drewN_two _ _ _⟩
      · go_wp2
        go_ret
        refine ⟨?_, _, rfl⟩
        have : la = lb := List.ext_getElem? (fun j => by
          by_cases x : j < i
          · exact HJ.out j x
          · have := HN.out
            have := HM.out
            rw [List.getElem?_eq_none (by omega), List.getElem?_eq_none (by omega)])
        simp [this]
  · have hli : ¬ (n : Int) = (m : Int) := by omega
    go_enter Try.func51, Try.ntmps51
    go_wp2
    go_ret
    refine ⟨?_, 0, rfl⟩
    rw [decide_eq_false (fun e => hl (by rw [← HN.out, ← HM.out, e]))]
    rfl

end Go.Proofs.Ytbibmgcklilpmaa
