/- slices.Delete of one entry: in place. No condition. -/
import Derived.Test.YtbeenpobppkhdaaTBuild
namespace Go.Lap
open Go.RowKit

/-- append where there is room, as one step of a region that draws: the source may overlap. -/
theorem room_step {P : Program} {w : World} {t e : TypeId} {size bytes : Nat} (E : Elem P t e size bytes) {ops : Array Oper} {o : Oper} {a : Act} {K : Act → World → Prop} {Q : Exit → Act → World → Prop} {F : Prop} (hgd : o.guard = none) (s x : Operand)
    (ho : o.op = .call { callee := .builtin .append, args := #[s, x], argTypes := #[t, t] }) {g n cap m c : Nat} {ad : Addr} {cur : Array Value} {news : List Value}
    (hs : a.eval s = .slice (some ⟨g, 0, none⟩) n cap) (hx : a.eval x = .slice (some ad) m c) (hg : w.heap[g]? = some (.cells cur e (0, 0))) (hl : news.length = m * size) (hnews : ∀ j u, news[j]? = some u → w.cell? (ad.add j) = some u) (h1 : ∀ u ∈ news, u.oneCell' = true)
    (hroom : n + m ≤ cap) (hfit : n * size + news.length ≤ cur.size)
    (h : ∀ w', w'.heap[g]? = some (.cells (laid cur (n * size) news) e (0, 0)) → Only (· = g) w w' → K (a.put o.dst (.slice (some ⟨g, 0, none⟩) (n + m) cap)) w') :
    if Region.wanted o (yielded ops a.tmps) = true then Oper.wp P o a w K Q else F := by
  have hw : Region.wanted o (yielded ops a.tmps) = true := by simp [Region.wanted, hgd]
  rw [if_pos hw]
  obtain ⟨i, z, ht, hi, h0, hsz, h2, hzc, hpos⟩ := E.ex
  subst hsz
  have hrun := run_append_room (P := P) w t o.type e i ht hi g n cap cur hg ad m c news hl hnews h1 hroom hfit
  unfold Oper.wp execOp
  simp only [ho, resolve, invoke, builtin, Sem.run_bind, Sem.run_pure, Result.andThen_ok, List.map_toArray, List.map_cons, List.map_nil, hs, hx, hrun]
  exact h _ (setRow_heap w g cur _ e (0, 0) hg) ((Only.refl _ _).setRow g _ (fun _ => rfl))

/-- clear of one element. -/
theorem run_clear_one {P : Program} (w : World) (t e : TypeId) (z : Value) (ht : P.underlying t = some (.slice e)) (hv : ∀ w, (zeroValue e).run P w = .ok z w) (h1 : ∀ u ∈ z.cells.toList, u.oneCell' = true) {g o c : Nat} {cur : Array Value} (hg : w.heap[g]? = some (.cells cur e (0, 0))) (hfit : o + z.cells.size ≤ cur.size) :
    ∃ w', (∀ ty, (Builtin.clear_ #[t] ty #[.slice (some ⟨g, o, none⟩) 1 c]).run P w = .ok (.tuple #[]) w') ∧ w'.heap[g]? = some (.cells (laid cur o z.cells.toList) e (0, 0)) ∧ Only (· = g) w w' := by
  have hzc : (Builtin.zeroCells z.cells 1).toList = z.cells.toList := by
    simp only [Builtin.zeroCells, Array.toList_map, Array.toList_range, Nat.one_mul]
    apply List.ext_getElem
    · simp
    · intro i h1 h2
      simp only [List.length_map, List.length_range] at h1
      simp [Nat.mod_eq_of_lt h1, h1]
  have hst := run_storeCells_at (P := P) g o e z.cells.toList 0 cur w hg (by simpa using hfit) h1
  simp only [Nat.add_zero] at hst
  refine ⟨_, fun ty => ?_, setRow_heap w g cur _ e (0, 0) hg, (Only.refl _ _).setRow g _ (fun _ => rfl)⟩
  unfold laid
  simp [Builtin.clear_, run_underlying ht, hv, hzc, hst]
end Go.Lap
namespace Go.Proofs.Ytbeenpobppkhdaa
open Go.RowKit Go.Lap

set_option maxHeartbeats 1000000 in
set_option maxRecDepth 100000 in
theorem delete_any (xs : List EV) (i n g c : Nat) (w : World) (hrow : RowAt w (.slice (some ⟨g, 0, none⟩) n c) xs) (hn : xs.length = n) (hi : i < n) (hl : n ≤ 40000) :
    Calls Try.prog 38 #[.slice (some ⟨g, 0, none⟩) n c, .int .i64 (i : Int), .int .i64 ((i : Int) + 1)] w fun e w' => e = .returned (.slice (some ⟨g, 0, none⟩) (n - 1) c) ∧ RowAt w' (.slice (some ⟨g, 0, none⟩) (n - 1) c) (xs.take i ++ xs.drop (i + 1)) ∧ Only (· = g) w w' := by
  obtain ⟨hx, hcase⟩ := hrow
  rcases hcase with ⟨e, _⟩ | ⟨g', cap, cur, e, _, hg, hc, hcm, hsz, htk⟩
  · cases e
  · injection e with e1 e2 e3
    injection e1 with e1
    injection e1 with e1 _ _
    subst e1 e3
    obtain ⟨d, hd⟩ : ∃ d, n - (i + 1) = d := ⟨_, rfl⟩
    obtain ⟨m, hm⟩ : ∃ m, i + d = m := ⟨_, rfl⟩
    have hnm : n - m = 1 := by omega
    clear e2
    obtain ⟨rs, hrs⟩ : ∃ rs, rowV (xs.drop (i + 1)) = rs := ⟨_, rfl⟩
    have hrl : rs.length = d * 3 := by rw [← hrs, rowV_length, List.length_drop, hn, hd]
    have hdrop : rs = (rowV xs).drop ((i + 1) * 3) := by rw [← hrs, rowV_drop]
    have hcell : ∀ j u, rs[j]? = some u → w.cell? ⟨g, (i + 1) * 3 + j, none⟩ = some u := fun j u hj => by
      rw [cell_of hg]
      rw [hdrop, List.getElem?_drop, ← htk, List.getElem?_take] at hj
      split at hj
      · rw [← Array.getElem?_toList]; exact hj
      · cases hj
    have HC := Lib.hid hcell
    have HG := Lib.hid hg
    have HRL := Lib.hid hrl
    have H1 : Hid (∀ u ∈ rs, u.oneCell' = true) := by rw [← hrs]; exact one_row _
    have HCL : Hid (∀ w1 : World, w1.heap[g]? = some (.cells (laid cur (i * 3) rs) 34 (0, 0)) → Only (· = g) w w1 → ∃ w2, (∀ ty, (Builtin.clear_ #[36] ty #[.slice (some ⟨g, m * 3, none⟩) 1 (c - m)]).run Try.prog w1 = .ok (.tuple #[]) w2) ∧ RowAt w2 (.slice (some ⟨g, 0, none⟩) m c) (xs.take i ++ xs.drop (i + 1)) ∧ Only (· = g) w w2) := by
      intro w1 h1 ho1
      have hls : (laid cur (i * 3) rs).size = cur.size := laid_size (by rw [hrl, hsz]; omega)
      obtain ⟨w2, hrun, hh2, ho2⟩ := run_clear_one (P := Try.prog) w1 36 34 (.agg #[.slice none 0 0, .int .i64 0, .int .i64 0]) Try.underlying36 (fun w => by kernel_rfl) (by decide) (o := m * 3) (c := c - m) h1 (by rw [hls, hsz]; show m * 3 + 3 ≤ c * 3; omega)
      refine ⟨w2, hrun, ⟨?_, Or.inr ⟨g, c, _, ?_, Nat.zero_le _, hh2, ?_, hcm, ?_, ?_⟩⟩, ho1.trans ho2⟩
      · rw [rowV_length]
      · congr 1
        rw [List.length_append, List.length_take, List.length_drop, hn]; omega
      · rw [List.length_append, List.length_take, List.length_drop, hn]; omega
      · rw [laid_size (by rw [hls, hsz]; show m * 3 + 3 ≤ c * 3; omega), hls, hsz]
      · have hl0 : (xs.take i ++ xs.drop (i + 1)).length = m := by rw [List.length_append, List.length_take, List.length_drop, hn]; omega
        rw [hl0, laid_list, List.append_assoc, List.take_append_of_le_length (by rw [List.length_take, Array.length_toList, hls, hsz]; omega), List.take_take, Nat.min_self, laid_list]
        have hci : cur.toList.take (i * 3) = rowV (xs.take i) := by
          rw [rowV_take, ← htk, List.take_take, Nat.min_eq_left (by omega)]
        rw [hci, rowV_append, hrs, List.take_append_of_le_length (by rw [List.length_append, rowV_length, List.length_take, hn, hrl]; omega), List.take_of_length_le (by rw [List.length_append, rowV_length, List.length_take, hn, hrl]; omega)]
    obtain ⟨ad, had⟩ : ∃ ad : Addr, (if c = i + 1 then some (⟨g, 0, none⟩ : Addr) else some ⟨g, (i + 1) * 3, none⟩) = some ad ∧ (∀ j u, rs[j]? = some u → w.cell? (ad.add j) = some u) := by
      by_cases hci : c = i + 1
      · refine ⟨⟨g, 0, none⟩, if_pos hci, fun j u hj => ?_⟩
        have h0 : rs = [] := List.eq_nil_of_length_eq_zero (by omega)
        rw [h0] at hj
        cases hj
      · exact ⟨⟨g, (i + 1) * 3, none⟩, if_neg hci, fun j u hj => by rw [add_none]; exact hcell j u hj⟩
    have HAD := Lib.hid had
    have hn1 : n - 1 = m := by omega
    rw [hn1]
    have hsz2 : i * 3 + rs.length ≤ cur.size := by rw [hrl, hsz]; omega
    have dne : ¬ ((i : Int) = (i : Int) + 1) := by omega
    have d0 : (0 : Int) ≤ (i : Int) := by omega
    have d1 : (i : Int) ≤ (i : Int) + 1 := by omega
    have d2 : (i : Int) + 1 ≤ (n : Int) := by omega
    have d3 : (i : Int) ≤ (c : Int) := by omega
    have d4 : (0 : Int) ≤ (i : Int) + 1 := by omega
    have d5 : ((i : Int) + 1).toNat = i + 1 := by omega
    have d6 : (n : Int) ≤ (c : Int) := by omega
    have d7 : (m : Int) ≤ (n : Int) := by omega
    have d8 : ¬ c = m := by omega
    have d9 : ¬ c = i := by omega
    clear had hdrop hcell hg hrl htk hrs hx
    go_enter Try.func38, Try.ntmps38
    go_upto_region 5 with fail
    go_region_law (first
      | (refine room_step elem_ent rfl (.tmp 22) (.tmp 25) rfl (g := g) (n := i) (cap := c) (m := d) (c := c - (i + 1)) (ad := ad) (cur := cur) (news := rs) rfl (by rw [← HAD.out.1]; rfl) (by exact HG.out) HRL.out HAD.out.2 H1.out (by omega) hsz2 ?_; intro w1 hh1 ho1; rw [hm])
      | fail)
    all_goals
      obtain ⟨w2, hcl, hrow2, ho2⟩ := HCL.out w1 hh1 ((Only.refl (· = g) w).drew.trans ho1)
      have HF := Lib.hid (And.intro hrow2 ho2)
      clear hrow2 ho2 hh1 ho1
      go_wp2
      all_goals
        go_ret
        first
          | exact ⟨rfl, HF.out⟩
          | (rename_i h; subst h; exact ⟨rfl, HF.out⟩)
          | fail

end Go.Proofs.Ytbeenpobppkhdaa
