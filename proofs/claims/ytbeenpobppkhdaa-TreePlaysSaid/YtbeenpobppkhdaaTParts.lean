/- The contract of parts: n things in parts. No condition. -/
import Derived.Test.YtbeenpobppkhdaaTScan2
import Derived.BigRegion
namespace Go.Lap

/-- Where a part begins. -/
def cutAt (n i : Nat) : Nat := n * i / ((n + 7) / 8)

/-- How many parts there are. -/
def nparts (n : Nat) : Nat := (n + 7) / 8

def partV (n i : Nat) : List Value := [.int .i64 (cutAt n i : Int), .int .i64 (cutAt n (i + 1) : Int)]

/-- The first i parts. -/
def partsV (n i : Nat) : List Value := (List.range i).flatMap (partV n)

theorem partsV_succ (n i : Nat) : partsV n (i + 1) = partsV n i ++ partV n i := by
  unfold partsV
  rw [List.range_succ, List.flatMap_append]
  simp

theorem partsV_length (n i : Nat) : (partsV n i).length = i * 2 := by
  induction i with
  | zero => rfl
  | succ i ih => rw [partsV_succ, List.length_append, ih]; simp [partV]; omega

theorem partsV_get (n : Nat) : ∀ {k i : Nat}, i < k → (partsV n k)[i * 2]? = some (.int .i64 (cutAt n i : Int)) ∧ (partsV n k)[i * 2 + 1]? = some (.int .i64 (cutAt n (i + 1) : Int))
  | 0, i, h => by omega
  | k + 1, i, h => by
    rw [partsV_succ]
    by_cases x : i < k
    · have := partsV_get n x
      rw [List.getElem?_append_left (by rw [partsV_length]; omega), List.getElem?_append_left (by rw [partsV_length]; omega)]
      exact this
    · have : i = k := by omega
      subst this
      rw [List.getElem?_append_right (by rw [partsV_length]; omega), List.getElem?_append_right (by rw [partsV_length]; omega), partsV_length, Nat.sub_self, show i * 2 + 1 - i * 2 = 1 by omega]
      exact ⟨rfl, rfl⟩

theorem one_parts (n i : Nat) : ∀ u ∈ partsV n i, u.oneCell' = true := by
  intro u hu
  obtain ⟨j, _, hj⟩ := List.mem_flatMap.1 hu
  simp [partV] at hj
  rcases hj with rfl | rfl <;> rfl

theorem cut_zero (n : Nat) : cutAt n 0 = 0 := by unfold cutAt; rw [Nat.mul_zero, Nat.zero_div]

theorem cut_all (n : Nat) : cutAt n (nparts n) = n := by
  unfold cutAt nparts
  rcases Nat.eq_zero_or_pos ((n + 7) / 8) with h | h
  · rw [h]; simp; omega
  · exact Nat.mul_div_cancel _ h

theorem cut_step (n i : Nat) : cutAt n i + n / ((n + 7) / 8) ≤ cutAt n (i + 1) := by
  unfold cutAt
  rcases Nat.eq_zero_or_pos ((n + 7) / 8) with h | h
  · rw [h]; simp
  · rw [Nat.le_div_iff_mul_le h, Nat.add_mul, Nat.mul_add, Nat.mul_one]
    have h1 := Nat.div_mul_le_self (n * i) ((n + 7) / 8)
    have h2 := Nat.div_mul_le_self n ((n + 7) / 8)
    omega

theorem cut_mono (n : Nat) : ∀ {i j : Nat}, i ≤ j → cutAt n i ≤ cutAt n j := by
  intro i j h
  obtain ⟨d, rfl⟩ := Nat.le.dest h
  induction d with
  | zero => exact Nat.le_refl _
  | succ d ih =>
    have h1 : cutAt n (i + d) ≤ cutAt n (i + d + 1) := Nat.le_trans (Nat.le_add_right _ _) (cut_step n (i + d))
    have h2 := ih (Nat.le_add_right _ _)
    rw [← Nat.add_assoc]
    omega

theorem cut_le {n i : Nat} (h : i ≤ nparts n) : cutAt n i ≤ n := by
  have := cut_mono n h
  rw [cut_all] at this
  exact this

/-- No part is without things. -/
theorem cut_one {n : Nat} (h : 0 < n) (i : Nat) : cutAt n i + 1 ≤ cutAt n (i + 1) := by
  have h1 := cut_step n i
  have h2 : 1 ≤ n / ((n + 7) / 8) := by
    rw [Nat.le_div_iff_mul_le (by omega)]
    omega
  omega

/-- None has one alone, if it needn't. -/
theorem cut_two {n : Nat} (h : 2 ≤ n) (i : Nat) : cutAt n i + 2 ≤ cutAt n (i + 1) := by
  have h1 := cut_step n i
  have h2 : 2 ≤ n / ((n + 7) / 8) := by
    rw [Nat.le_div_iff_mul_le (by omega)]
    omega
  omega

theorem nparts_lt {n : Nat} (h : 2 ≤ n) : nparts n < n := by unfold nparts; omega
theorem nparts_pos {n : Nat} (h : 0 < n) : 0 < nparts n := by unfold nparts; omega
theorem nparts_zero : nparts 0 = 0 := rfl
end Go.Lap
namespace Go.Proofs.Ytbeenpobppkhdaa
open Go.RowKit Go.Lap

theorem elem_pair : Elem Try.prog 84 86 2 16 := Elem.mk' (.agg #[.int .i64 0, .int .i64 0]) Try.underlying84 (by kernel_rfl) rfl (by decide)

/-- A new row of parts. -/
structure PartsW (w w' : World) (n i : Nat) (v : Value) : Prop where
  quiet : Quiet w w'
  own : w'.ownsRow 0 86 2 v i (partsV n i)
  new : ∀ k, v.ownBlock = some k → w.heap.size ≤ k

def PartsPost (w : World) (n : Nat) (e : Ending) (w' : World) : Prop := ∃ v, e = .returned v ∧ PartsW w w' n (nparts n) v

theorem PartsW.push {w w1 w2 w' : World} {n i : Nat} {v v' : Value} (h : PartsW w w1 n i v) (hq : Quiet w1 w2) (hg : Grew w2 w' 86 2 v v' (i + 1) (partsV n i ++ partV n i)) : PartsW w w' n (i + 1) v' := by
  have hz := h.quiet.size
  have hz2 := hq.size
  refine ⟨(h.quiet.trans hq).trans' hg.only (fun k hk e => by have := h.new k e; omega), by rw [partsV_succ]; exact hg.own, fun k e => ?_⟩
  rcases hg.loc with x | x
  · rw [x] at e; exact h.new k e
  · rw [x] at e; injection e with e; omega

theorem one_two (a b : Int) : ∀ u ∈ [Value.int .i64 a, Value.int .i64 b], u.oneCell' = true := by
  intro u hu
  simp at hu
  rcases hu with rfl | rfl <;> rfl

set_option maxHeartbeats 2000000 in
set_option maxRecDepth 100000 in
theorem parts_any (n : Nat) (w : World) (hn : n ≤ 40000) : Calls Try.prog 48 #[.int .i64 (n : Int)] w (PartsPost w n) := by
  obtain ⟨k, hk⟩ : ∃ k, nparts n = k := ⟨_, rfl⟩
  have hk2 : (n + 7) / 8 = k := hk
  have HK := Lib.hid hk
  have e1 : ((n : Int) + 7).tdiv 8 = (k : Int) := by
    rw [← hk2]
    rw [Int.tdiv_eq_ediv_of_nonneg (by omega)]
    omega
  have e1' : ((n : Int) + 8 - 1) / 8 = (k : Int) := by omega
  have hk3 : k ≤ 40000 := by omega
  have HS0 : Hid (PartsW w w n 0 (.slice none 0 0)) := ⟨Only.refl _ _, World.ownsRow_nil _ _ _ _, fun _ e => by cases e⟩
  clear hk
  go_enter Try.func48, Try.ntmps48
  go_wp2_with fail
  rw [e1']
  go_loopw [11, 4, 5] (fun ci cv _ wr => ∃ (i : Nat) (v' : Value), i ≤ k ∧ ci = .int .i64 (i : Int) ∧ v' = cv ∧ PartsW w wr n i v') (fun ci _ _ _ => k - (intOf ci).toNat)
  case atStart => exact ⟨0, _, Nat.zero_le _, rfl, rfl, HS0.out⟩
  case round =>
    obtain ⟨i, v', hi', rfl, rfl, hO⟩ := hrel
    clear HS0
    have HO := Lib.hid hO
    obtain ⟨Av, cv', hvv, _, _, _⟩ := own_form hO.own
    subst hvv
    clear hO
    by_cases hlt : i < k
    · obtain ⟨p, hp⟩ : ∃ p : Nat, n * i = p := ⟨_, rfl⟩
      obtain ⟨q, hq⟩ : ∃ q : Nat, n * (i + 1) = q := ⟨_, rfl⟩
      obtain ⟨a, ha⟩ : ∃ a : Nat, p / k = a := ⟨_, rfl⟩
      obtain ⟨b, hb⟩ : ∃ b : Nat, q / k = b := ⟨_, rfl⟩
      have hpb : p ≤ 40000 * 40000 := by rw [← hp]; exact Nat.mul_le_mul hn (by omega)
      have hqb : q ≤ 40000 * 40000 := by rw [← hq]; exact Nat.mul_le_mul hn (by omega)
      have hab : a ≤ p := by rw [← ha]; exact Nat.div_le_self _ _
      have hbb : b ≤ q := by rw [← hb]; exact Nat.div_le_self _ _
      have HA : Hid (cutAt n i = a) := by show n * i / ((n + 7) / 8) = a; rw [hk2, hp, ha]
      have HB : Hid (cutAt n (i + 1) = b) := by show n * (i + 1) / ((n + 7) / 8) = b; rw [hk2, hq, hb]
      have hpi : (n : Int) * (i : Int) = (p : Int) := by rw [← hp]; simp
      have hqi : (n : Int) * ((i : Int) + 1) = (q : Int) := by rw [← hq]; simp
      have m1 : IntKind.i64.wrap ((n : Int) * (i : Int)) = (p : Int) := by rw [hpi]; exact wrapI (by omega)
      have m2 : IntKind.i64.wrap ((n : Int) * ((i : Int) + 1)) = (q : Int) := by rw [hqi]; exact wrapI (by omega)
      have m3 : IntKind.i64.wrap ((i : Int) + 1) = (i : Int) + 1 := wrapI (by omega)
      have ta : (p : Int).tdiv (k : Int) = (a : Int) := by rw [← ha]; rw [Int.tdiv_eq_ediv_of_nonneg (by omega)]; rfl
      have tb : (q : Int).tdiv (k : Int) = (b : Int) := by rw [← hb]; rw [Int.tdiv_eq_ediv_of_nonneg (by omega)]; rfl
      have q1 : IntKind.i64.wrap ((p : Int).tdiv (k : Int)) = (a : Int) := by rw [ta]; exact wrapI (by omega)
      have q2 : IntKind.i64.wrap ((q : Int).tdiv (k : Int)) = (b : Int) := by rw [tb]; exact wrapI (by omega)
      have k0 : ¬ k = 0 := by omega
      have wa : IntKind.i64.wrap (a : Int) = (a : Int) := wrapI (by omega)
      have wb : IntKind.i64.wrap (b : Int) = (b : Int) := wrapI (by omega)
      clear hp hq ha hb hpi hqi hpb hqb hab hbb
      go_upto_region 6 with fail
      go_region_law (first
        | (refine app_step elem_pair rfl (.tmp 14) (.tmp 27) rfl rfl (owns_kept HO.out.own (((Only.refl (fun _ => False) wr).alloc (.cells #[.int .i64 (a : Int), .int .i64 (b : Int)] 86)).drew) (fun _ _ x => x)) rfl (Rd.kept (Rd.new wr 2 1 [.int .i64 (a : Int), .int .i64 (b : Int)] 86 (fun _ => True) rfl trivial) ((Only.refl (fun _ => False) _).drew) (fun _ _ x => x)) (one_two a b) (by unfold maxLen; omega) (by omega) ?_; intro v5 w5 hg5; have HO5 : Hid (PartsW w w5 n (i + 1) v5) := HO.out.push (((Only.refl (fun _ => False) wr).alloc (.cells #[.int .i64 (a : Int), .int .i64 (b : Int)] 86)).drew) (by unfold partV; rw [HA.out, HB.out]; exact hg5); clear hg5)
        | fail)
      all_goals
        go_wp2
        go_roundw
        case rel => exact ⟨i + 1, v5, by omega, by go_num, rfl, HO5.out⟩
        case measure => simp [intOf]; omega
    · have HR : Hid (PartsPost w n (.returned (.slice Av i cv')) wr) := ⟨_, rfl, by rw [HK.out, show k = i by omega]; exact HO.out⟩
      go_wp2
      go_ret
      exact HR.out

end Go.Proofs.Ytbeenpobppkhdaa
