/- Laws on append of so many zero values, and on copy, for slices.Insert. No condition. -/
import Derived.Test.YtbeenpobppkhdaaTRow
namespace Go.Lap
open Go.RowKit

section
variable {P : Program} {w : World} {ops : Array Oper} {rest : List Oper} {o : Oper} {a : Act} {K : Act → World → Prop} {Q : Exit → Act → World → Prop}

/-- What a copy leaves in the block that is written. -/
def laid (cur : Array Value) (at_ : Nat) (cs : List Value) : Array Value := (cur.toList.take at_ ++ cs ++ cur.toList.drop (at_ + cs.length)).toArray

theorem laid_size {cur : Array Value} {at_ : Nat} {cs : List Value} (h : at_ + cs.length ≤ cur.size) : (laid cur at_ cs).size = cur.size := by
  unfold laid
  simp
  omega

theorem laid_list (cur : Array Value) (at_ : Nat) (cs : List Value) : (laid cur at_ cs).toList = cur.toList.take at_ ++ cs ++ cur.toList.drop (at_ + cs.length) := by simp [laid]

theorem wp_copyK (d s : Operand) (dT sT elem : TypeId) (ho : o.op = .call { callee := .builtin .copy, args := #[d, s], argTypes := #[dT, sT] }) {k g at_ dLen dCap sLen sCap : Nat} {src : Addr} {cur : Array Value} {t : TypeId} {cs : List Value}
    (hd : a.eval d = .slice (some ⟨g, at_, none⟩) dLen dCap) (hs : a.eval s = .slice (some src) sLen sCap) (hu : P.underlying dT = some (.slice elem)) (hk : (P.info? elem).map (·.size) = some k)
    (hg : w.heap[g]? = some (.cells cur t (0, 0))) (hn : cs.length = Nat.min sLen dLen * k) (hsrc : ∀ j v, cs[j]? = some v → w.cell? (src.add j) = some v) (hfit : at_ + cs.length ≤ cur.size) (h1 : ∀ v ∈ cs, v.oneCell' = true)
    (h : ∀ w', w'.heap[g]? = some (.cells (laid cur at_ cs) t (0, 0)) → Only (· = g) w w' → K (a.put o.dst (goInt (Nat.min sLen dLen))) w') : o.wp P a w K Q := by
  have hrun := run_copy_rowK (P := P) w dT sT o.type elem k g at_ dLen dCap src sLen sCap cur t cs hu hk hg hn hsrc hfit h1
  unfold Oper.wp execOp
  simp only [ho, resolve, invoke, builtin, Sem.run_bind, Sem.run_pure, Result.andThen_ok, List.map_toArray, List.map_cons, List.map_nil, hd, hs, hrun]
  exact h _ (setRow_heap w g cur _ t (0, 0) hg) ((Only.refl _ _).setRow g _ (fun _ => rfl))

theorem run_copy_ex (w : World) (dT sT elem : TypeId) {k g at_ dLen dCap sLen sCap : Nat} {src : Addr} {cur : Array Value} {t : TypeId} {cs : List Value} {m : Nat}
    (hu : P.underlying dT = some (.slice elem)) (hk : (P.info? elem).map (·.size) = some k) (hm : Nat.min sLen dLen = m)
    (hg : w.heap[g]? = some (.cells cur t (0, 0))) (hn : cs.length = m * k) (hsrc : ∀ j v, cs[j]? = some v → w.cell? (src.add j) = some v) (hfit : at_ + cs.length ≤ cur.size) (h1 : ∀ v ∈ cs, v.oneCell' = true) :
    ∃ w', (∀ ty, (Builtin.copy_ #[dT, sT] ty #[.slice (some ⟨g, at_, none⟩) dLen dCap, .slice (some src) sLen sCap]).run P w = .ok (.int .i64 (m : Int)) w') ∧ w'.heap[g]? = some (.cells (laid cur at_ cs) t (0, 0)) ∧ Only (· = g) w w' := by
  subst hm
  exact ⟨_, fun ty => run_copy_rowK (P := P) w dT sT ty elem k g at_ dLen dCap src sLen sCap cur t cs hu hk hg hn hsrc hfit h1, setRow_heap w g cur _ t (0, 0) hg, (Only.refl _ _).setRow g _ (fun _ => rfl)⟩

theorem copyK (hgd : o.guard = none) (d s : Operand) (dT sT elem : TypeId) (ho : o.op = .call { callee := .builtin .copy, args := #[d, s], argTypes := #[dT, sT] }) {k g at_ dLen dCap sLen sCap : Nat} {src : Addr} {cur : Array Value} {t : TypeId} {cs : List Value}
    (hd : a.eval d = .slice (some ⟨g, at_, none⟩) dLen dCap) (hs : a.eval s = .slice (some src) sLen sCap) (hu : P.underlying dT = some (.slice elem)) (hk : (P.info? elem).map (·.size) = some k)
    (hg : w.heap[g]? = some (.cells cur t (0, 0))) (hn : cs.length = Nat.min sLen dLen * k) (hsrc : ∀ j v, cs[j]? = some v → w.cell? (src.add j) = some v) (hfit : at_ + cs.length ≤ cur.size) (h1 : ∀ v ∈ cs, v.oneCell' = true)
    (h : ∀ w', w'.heap[g]? = some (.cells (laid cur at_ cs) t (0, 0)) → Only (· = g) w w' → wpList P ops Q rest (a.put o.dst (goInt (Nat.min sLen dLen))) w') : wpList P ops Q (o :: rest) a w :=
  wpList_plain hgd fun _ hK => wp_copyK d s dT sT elem ho hd hs hu hk hg hn hsrc hfit h1 fun w' h2 h3 => hK _ _ (h w' h2 h3)

theorem copyK_step {F : Prop} (hgd : o.guard = none) (d s : Operand) (dT sT elem : TypeId) (ho : o.op = .call { callee := .builtin .copy, args := #[d, s], argTypes := #[dT, sT] }) {k g at_ dLen dCap sLen sCap : Nat} {src : Addr} {cur : Array Value} {t : TypeId} {cs : List Value}
    (hd : a.eval d = .slice (some ⟨g, at_, none⟩) dLen dCap) (hs : a.eval s = .slice (some src) sLen sCap) (hu : P.underlying dT = some (.slice elem)) (hk : (P.info? elem).map (·.size) = some k)
    (hg : w.heap[g]? = some (.cells cur t (0, 0))) (hn : cs.length = Nat.min sLen dLen * k) (hsrc : ∀ j v, cs[j]? = some v → w.cell? (src.add j) = some v) (hfit : at_ + cs.length ≤ cur.size) (h1 : ∀ v ∈ cs, v.oneCell' = true)
    (h : ∀ w', w'.heap[g]? = some (.cells (laid cur at_ cs) t (0, 0)) → Only (· = g) w w' → K (a.put o.dst (goInt (Nat.min sLen dLen))) w') :
    if Region.wanted o (yielded ops a.tmps) = true then Oper.wp P o a w K Q else F := by
  have hw : Region.wanted o (yielded ops a.tmps) = true := by simp [Region.wanted, hgd]
  rw [if_pos hw]
  exact wp_copyK d s dT sT elem ho hd hs hu hk hg hn hsrc hfit h1 h

/-- 'append(s[:i], make(S, m)...)' where there is no room: a new row. -/
theorem zerosK {t tn e : TypeId} {size bytes : Nat} (E : Elem P t e size bytes) (htn : P.underlying tn = some (.int .i64)) (hgd : o.guard = none) (s x : Operand) (ho : o.op = .call { callee := .builtin .append, args := #[s, x], argTypes := #[t, tn] })
    {g off i cap m : Nat} {z : Int} {olds : List Value} (hs : a.eval s = .slice (some ⟨g, off, none⟩) i cap) (hx : a.eval x = .int .i64 z) (hz : z = (m : Int)) (hm : 0 < m) (hcap : cap < i + m) (hl : olds.length = i * size) (hold : ∀ j v, olds[j]? = some v → w.cell? ⟨g, off + j, none⟩ = some v)
    (hbig : (i + m) * bytes ≤ 140737488355328) (h63 : i + m ≤ 1000000)
    (h : ∀ w' G ROW, i + m ≤ G → G ≤ maxLen → w'.heap[w.heap.size]? = some (.cells ROW e (0, 0)) → ROW.size = G * size → ROW.toList.take (i * size) = olds → Only (fun _ => False) w w' → wpList P ops Q rest (a.put o.dst (.slice (some ⟨w.heap.size, 0, none⟩) (i + m) G)) w') : wpList P ops Q (o :: rest) a w := by
  obtain ⟨inf, zv, ht, hi, h0, h1', h2, hzc, hsz⟩ := E
  subst hz
  have hfc : (Builtin.firstCells inf.size i (.slice (some ⟨g, off, none⟩) i cap)).run P w.drew = .ok olds.toArray w.drew := by
    have := run_loadCells_list (P := P) w.drew ⟨g, off, none⟩ olds (fun j v hj => by rw [add_none]; exact hold j v hj)
    rw [hl] at this
    unfold Builtin.firstCells
    rw [h1']
    exact this
  have hbb : m * inf.bytes ≤ 281474976710656 := by
    rw [h2]
    have : m * bytes ≤ (i + m) * bytes := Nat.mul_le_mul_right _ (by omega)
    omega
  have hrun := Lib.run_append_grow_zeros (P := P) w t tn o.type e inf zv .i64 .i64 ht htn hi h0 (some ⟨g, off, none⟩) i cap olds hfc m hm (by omega) hcap (by omega) hbb (by rw [h2]; exact growslice_fits hcap hbig)
  refine Lib.wpList_append_run w hgd s x t tn ho _ _ hs hx _ _ hrun ?_
  have hG := grownCap_ge w (i + m) cap e
  refine h _ (grownCap w (i + m) cap e) (olds.toArray ++ Builtin.zeroCells zv.cells m ++ Builtin.zeroCells zv.cells (grownCap w (i + m) cap e - (i + m))) hG (grownCap_le_maxLen w (i + m) cap e (by unfold maxLen; omega)) (alloc_new w.drew _) ?_ ?_ ((Only.refl _ w).drew.alloc _)
  · simp only [Array.size_append, List.size_toArray, size_zeroCells, hzc, hl]
    rw [← Nat.add_mul, ← Nat.add_mul]
    congr 1
    omega
  · simp only [Array.toList_append, List.append_assoc]
    rw [← hl]
    simp
end

/-- What stands behind both copies. -/
theorem laid_two {cur : Array Value} {xs news : List Value} {i n size : Nat} (hx : xs.length = n * size) (hn : news.length = size) (hi : i ≤ n) (hc : cur.toList.take (i * size) = xs.take (i * size)) (hs : (n + 1) * size ≤ cur.size) :
    (laid (laid cur (i * size) news) ((i + 1) * size) (xs.drop (i * size))).toList.take ((n + 1) * size) = xs.take (i * size) ++ news ++ xs.drop (i * size) := by
  have him : i * size ≤ n * size := Nat.mul_le_mul_right _ hi
  have e1 : (n + 1) * size = n * size + size := by rw [Nat.add_mul]; omega
  have e2 : (i + 1) * size = i * size + size := by rw [Nat.add_mul]; omega
  have hlc : cur.toList.length = cur.size := by simp
  rw [laid_list, laid_list, hc]
  have htl : (xs.take (i * size)).length = i * size := by rw [List.length_take]; omega
  have h1 : (xs.take (i * size) ++ news ++ cur.toList.drop (i * size + news.length)).take ((i + 1) * size) = xs.take (i * size) ++ news := by
    rw [List.take_append_of_le_length (by rw [List.length_append, htl]; omega), List.take_of_length_le (by rw [List.length_append, htl]; omega)]
  rw [h1]
  rw [List.take_append_of_le_length (by rw [List.length_append, List.length_append, htl, List.length_drop]; omega), List.take_of_length_le (by rw [List.length_append, List.length_append, htl, List.length_drop]; omega)]

theorem laid_back {cur : Array Value} {xs news : List Value} {i n size : Nat} (hx : xs.length = n * size) (hn : news.length = size) (hi : i ≤ n) (hc : cur.toList.take (n * size) = xs) (hs : (n + 1) * size ≤ cur.size) :
    (laid (laid cur ((i + 1) * size) (xs.drop (i * size))) (i * size) news).toList.take ((n + 1) * size) = xs.take (i * size) ++ news ++ xs.drop (i * size) := by
  have him : i * size ≤ n * size := Nat.mul_le_mul_right _ hi
  have e1 : (n + 1) * size = n * size + size := by rw [Nat.add_mul]; omega
  have e2 : (i + 1) * size = i * size + size := by rw [Nat.add_mul]; omega
  have hlc : cur.toList.length = cur.size := by simp
  rw [laid_list, laid_list]
  have ht : (cur.toList.take ((i + 1) * size)).length = (i + 1) * size := by rw [List.length_take]; omega
  have hd : (xs.drop (i * size)).length = n * size - i * size := by rw [List.length_drop, hx]
  have h1 : (cur.toList.take ((i + 1) * size) ++ xs.drop (i * size) ++ cur.toList.drop ((i + 1) * size + (xs.drop (i * size)).length)).take (i * size) = xs.take (i * size) := by
    rw [List.append_assoc, List.take_append_of_le_length (by rw [ht]; omega), List.take_take, Nat.min_eq_left (by omega), ← hc, List.take_take, Nat.min_eq_left him]
  have h2 : (cur.toList.take ((i + 1) * size) ++ xs.drop (i * size) ++ cur.toList.drop ((i + 1) * size + (xs.drop (i * size)).length)).drop (i * size + news.length) = xs.drop (i * size) ++ cur.toList.drop ((i + 1) * size + (xs.drop (i * size)).length) := by
    rw [List.append_assoc, List.drop_append_of_le_length (by rw [ht]; omega), List.drop_of_length_le (by rw [ht]; omega)]
    rfl
  rw [h1, h2, ← List.append_assoc]
  have htl : (xs.take (i * size)).length = i * size := by rw [List.length_take]; omega
  rw [List.take_append_of_le_length (by rw [List.length_append, List.length_append, htl, hd]; omega), List.take_of_length_le (by rw [List.length_append, List.length_append, htl, hd]; omega)]

theorem laid_two1 {cur : Array Value} {xs news : List Value} {i n : Nat} (hx : xs.length = n) (hn : news.length = 1) (hi : i ≤ n) (hc : cur.toList.take i = xs.take i) (hs : n + 1 ≤ cur.size) :
    (laid (laid cur i news) (i + 1) (xs.drop i)).toList.take ((n + 1) * 1) = xs.take i ++ news ++ xs.drop i := by
  have := laid_two (size := 1) (cur := cur) (xs := xs) (news := news) (i := i) (n := n) (by omega) hn hi (by simpa using hc) (by omega)
  simpa using this

theorem laid_back1 {cur : Array Value} {xs news : List Value} {i n : Nat} (hx : xs.length = n) (hn : news.length = 1) (hi : i ≤ n) (hc : cur.toList.take n = xs) (hs : n + 1 ≤ cur.size) :
    (laid (laid cur (i + 1) (xs.drop i)) i news).toList.take ((n + 1) * 1) = xs.take i ++ news ++ xs.drop i := by
  have := laid_back (size := 1) (cur := cur) (xs := xs) (news := news) (i := i) (n := n) (by omega) hn hi (by simpa using hc) (by omega)
  simpa using this

end Go.Lap
