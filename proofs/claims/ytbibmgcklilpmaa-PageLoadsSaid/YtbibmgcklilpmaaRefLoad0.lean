/- What ref.Load calls and holds: get, the owner's row, one more slot. No condition. -/
import Derived.Test.YtbibmgcklilpmaaPageLoad
import Derived.Test.YtbibmgcklilpmaaRef5b
namespace Go.Lap

def covB (L : List Slot) (j : Nat) : Bool := L.any (fun s => match s with | none => false | some p => decide (p.1 ≤ j ∧ j < p.1 + p.2.size))

theorem covB_false {L : List Slot} {j : Nat} : covB L j = false ↔ Outside L j := by
  unfold covB Outside
  rw [List.any_eq_false]
  constructor
  · intro h i f t hi
    have := h _ (List.mem_of_getElem? hi)
    simp at this
    omega
  · intro h s hs
    rcases s with _ | ⟨f, t⟩
    · simp
    · obtain ⟨i, hi⟩ := List.mem_iff_getElem?.1 hs
      have := h i f t hi
      simp
      omega

/-- Whose a byte is: the head's, or a version's. -/
def ownG (g : Nat → Nat) (n k j : Nat) : Bool := decide (j < 4 + 4 * n) || covB (slotsG g k) j

theorem ownG_zero (g : Nat → Nat) (n j : Nat) : ownG g n 0 j = decide (j < 4 + 4 * n) := by simp [ownG, slotsG, covB]

theorem ownG_none {g : Nat → Nat} {n k : Nat} (h : slotG g k = none) (j : Nat) : ownG g n (k + 1) j = ownG g n k j := by
  unfold ownG covB
  rw [slotsG_succ, h, List.any_append]
  simp

theorem ownG_some {g : Nat → Nat} {n k f : Nat} {t : Tup} (h : slotG g k = some (f, t)) (j : Nat) : ownG g n (k + 1) j = (ownG g n k j || decide (f ≤ j ∧ j < f + t.size)) := by
  unfold ownG covB
  rw [slotsG_succ, h, List.any_append]
  simp [Bool.or_assoc]

/-- A version that lies over another one: the bytes are no page's. -/
theorem no_apart {g : Nat → Nat} {n k f x : Nat} {t : Tup} (hk : k < n) (h : slotG g k = some (f, t)) (h1 : f ≤ x) (h2 : x < f + t.size) (hc : covB (slotsG g k) x = true) : ¬ (slotsG g n).Pairwise Apart := by
  intro hp
  have ho : ¬ Outside (slotsG g k) x := fun h => by rw [covB_false.2 h] at hc; cases hc
  unfold Outside at ho
  simp only [Classical.not_forall, not_or] at ho
  obtain ⟨i, f', t', hi, h3, h4⟩ := ho
  obtain ⟨hik, hs⟩ := slotsG_some hi
  rw [List.pairwise_iff_getElem] at hp
  have hi' := slotsG_get (g := g) (k := n) (i := i) (by omega)
  have hk' := slotsG_get (g := g) (k := n) (i := k) hk
  obtain ⟨a1, a2⟩ := List.getElem?_eq_some_iff.1 hi'
  obtain ⟨b1, b2⟩ := List.getElem?_eq_some_iff.1 hk'
  have := hp i k a1 b1 hik f' t' f t (by rw [a2, ← hs]) (by rw [b2, h])
  omega

theorem yes_apart {g : Nat → Nat} {k f : Nat} {t : Tup} (h : slotG g k = some (f, t)) (hg : ∀ (i f : Nat) (t : Tup), (slotsG g k)[i]? = some (some (f, t)) → 0 < t.size) (hp : (slotsG g k).Pairwise Apart) (hc : ∀ x, f ≤ x → x < f + t.size → covB (slotsG g k) x = false) : (slotsG g (k + 1)).Pairwise Apart := by
  rw [slotsG_succ, List.pairwise_append]
  refine ⟨hp, List.pairwise_singleton .., fun s hs s' hs' => ?_⟩
  obtain rfl := List.mem_singleton.1 hs'
  intro f1 t1 f2 t2 e1 e2
  rw [h] at e2
  injection e2 with e2
  injection e2 with e2 e3
  subst e2 e3
  obtain ⟨i, hi⟩ := List.mem_iff_getElem?.1 hs
  rw [e1] at hi
  have hpos := hg i f1 t1 hi
  have htp := t.size_pos
  by_cases hx : f1 + t1.size ≤ f
  · exact Or.inl hx
  · by_cases hy : f + t.size ≤ f1
    · exact Or.inr hy
    · by_cases hz : f1 ≤ f
      · have := covB_false.1 (hc f (Nat.le_refl _) (by omega)) i f1 t1 hi
        omega
      · have := covB_false.1 (hc f1 (by omega) (by omega)) i f1 t1 hi
        omega

theorem yes_none {g : Nat → Nat} {k : Nat} (h : slotG g k = none) (hp : (slotsG g k).Pairwise Apart) : (slotsG g (k + 1)).Pairwise Apart := by
  rw [slotsG_succ, List.pairwise_append]
  refine ⟨hp, List.pairwise_singleton .., fun s hs s' hs' => ?_⟩
  obtain rfl := List.mem_singleton.1 hs'
  intro f1 t1 f2 t2 e1 e2
  rw [h] at e2
  cases e2

def boolF (o : Nat → Bool) (i : Nat) : Value := .bool (o i)

theorem leNum_eight (g : Nat → Nat) (f : Nat) : leNum g f 8 = leNum g f 7 + 72057594037927936 * g (f + 7) := by
  simp only [leNum]
  simp only [Nat.add_assoc, Nat.reduceAdd]
  omega

end Go.Lap
namespace Go.Proofs.Ytbibmgcklilpmaa
open Go.RowKit Go.Lap

set_option maxHeartbeats 400000 in
set_option maxRecDepth 100000 in
/-- A number of so many bytes. -/
theorem rget_num (b o n cap : Nat) (g : Nat → Nat) (p : Nat) (w : World) (hc : ∀ j, j < n → w.cell? ⟨b, o + j, none⟩ = some (.int .u8 (g (p + j) : Int))) (hg : ∀ i, g i < 256) (hn : n ≤ 7) :
    Calls Try.prog 96 #[.slice (some ⟨b, o, none⟩) n cap] w fun e w' => e = .returned (.int .i64 (leNum g p n)) ∧ w = w' := by
  have HC := Lib.hid hc
  have HG := Lib.hid hg
  clear hc hg
  go_enter Try.func96, Try.ntmps96
  go_wp2
  go_loop [3, 4] (fun v i => ∃ k : Nat, k ≤ n ∧ i = .int .i64 ((k : Int) - 1) ∧ v = .int .i64 (leNum g (p + k) (n - k))) (fun _ i => ((intOf i) + 1).toNat)
  case atStart => exact ⟨n, Nat.le_refl _, by go_num, by simp [leNum]⟩
  case round =>
    obtain ⟨k, hk, rfl, rfl⟩ := hrel
    by_cases h0 : 0 < k
    · have hcl := HC.out (k - 1) (by omega)
      have hlt := leNum_lt HG.out (n - k) (p + k)
      have h8 := HG.out (p + (k - 1))
      obtain ⟨v, hv⟩ : ∃ v, v = leNum g (p + k) (n - k) := ⟨_, rfl⟩
      obtain ⟨c, hcc⟩ : ∃ c, c = g (p + (k - 1)) := ⟨_, rfl⟩
      rw [← hcc] at hcl h8
      rw [← hv] at hlt ⊢
      have HV := Lib.hid hv
      have HCC := Lib.hid hcc
      have h56 : v < 281474976710656 := by
        have : 256 ^ (n - k) ≤ 256 ^ 6 := Nat.pow_le_pow_right (by omega) (by omega)
        omega
      clear hv hcc hlt
      go_wp2
      go_round
      case rel =>
        refine ⟨k - 1, by omega, by rw [show ((k : Int) - 1 - 1) = ((k - 1 : Nat) : Int) - 1 by omega], ?_⟩
        rw [leNum_down h0 hk, ← HV.out, ← HCC.out]
        congr 1
        omega
      case measure => simp [intOf]; omega
    · obtain rfl : k = 0 := by omega
      go_wp2
      go_ret
      exact ⟨by simp, rfl⟩

/-- 'b[l:h]' of bytes. -/
theorem bytes_range (b f n C l h : Nat) (hlh : l ≤ h) (hh : h ≤ C) (hl : l < C) (w : World) :
    (Instr.slice 48 (.slice (some ⟨b, f, none⟩) n C) (some (.int .i64 (l : Int))) (some (.int .i64 (h : Int))) none).run Try.prog w = .ok (.slice (some ⟨b, f + l, none⟩) (h - l) (C - l)) w := by
  rw [run_slice_lh w _ _ _ _ und_bytes _ _ _ _ (by omega) (by omega) (by omega), size_elem_bytes]
  simp [sliced, show ¬ C = l by omega, add_none]

/-- One more slot. -/
theorem RefPgAt.push {W w1 w5 : World} {b st : Nat} {S : Nat → Prop} {L : List Slot} {v v' d : Value} {rows : List (List Value)} {s : Slot} (h : RefPgAt W b S L st v rows) (hq : Quiet W w1)
    (hd : ∀ f t, s = some (f, t) → DatAt w1 S t d ∧ t.Ok ∧ f ≤ 512) (hl : 4 + 4 * (L.length + 1) ≤ 512) (hS : S w1.heap.size)
    (hg : Grew w1 w5 161 8 v v' (L.length + 1) (rows.flatten ++ slotV s d)) :
    RefPgAt (w5.setCell ⟨b, 0, none⟩ v') b S (L ++ [s]) st v' (rows ++ [slotV s d]) := by
  have vb : ∀ k, v.ownBlock = some k → k ≠ b := fun k e => by obtain ⟨y, hy⟩ := own_blk h.row e; exact ne_type hy h.blk (by decide)
  have hb1 := hq.get h.blk (fun x => x)
  have hr1 := owns_kept h.row hq (fun _ _ x => x)
  have dv : ∀ {T : Nat → Prop} {t d}, DatAt w1 T t d → ∀ k, d.ownBlock = some k → v.ownBlock ≠ some k ∧ k ≠ b := fun hd k e => by
    obtain ⟨z, hz⟩ := hd.blk e
    exact ⟨fun e2 => by obtain ⟨y, hy⟩ := own_blk hr1 e2; exact ne_type hz hy (by decide) rfl, ne_type hz hb1 (by decide)⟩
  have ob : Only (· = b) w5 (w5.setCell ⟨b, 0, none⟩ v') := (Only.refl (· = b) w5).setCell (p := ⟨b, 0, none⟩) (fun _ => rfl) v'
  have dk : ∀ {T : Nat → Prop} {t d}, DatAt w1 T t d → DatAt (w5.setCell ⟨b, 0, none⟩ v') T t d := fun hd =>
    (hd.keptIf hg.only (fun k e => (dv hd k e).1)).keptIf ob (fun k e => (dv hd k e).2)
  have v'b : ∀ k, v'.ownBlock = some k → k ≠ b := fun k e => by
    rcases hg.loc with x | x
    · rw [x] at e; exact vb k e
    · rw [x] at e; injection e with e; have := lt_of_get hb1; omega
  refine ⟨?_, ?_, by simp [h.len], fun i s' hi => ?_, ⟨h.foot.1, fun k e => ?_⟩, ⟨by simpa using hl, h.lim.2⟩⟩
  · rw [set_same (hg.only.get hb1 (fun e => vb _ e rfl))]
    rfl
  · rw [List.length_append, List.flatten_append]
    have : [slotV s d].flatten = slotV s d := by simp
    rw [this]
    exact owns_kept hg.own ob (fun k e x => v'b k e x)
  · rcases snoc_get hi with ⟨_, h1⟩ | ⟨h1, h2⟩
    · obtain ⟨d', hd', h3⟩ := h.slot i s' h1
      exact ⟨d', snoc_old hd', fun f t e => ⟨dk ((h3 f t e).1.kept hq (fun _ _ x => x)), (h3 f t e).2⟩⟩
    · subst h2
      exact ⟨d, by rw [h1, ← h.len]; simp, fun f t e => ⟨dk (hd f t e).1, (hd f t e).2⟩⟩
  · rcases hg.loc with x | x
    · rw [x] at e; exact h.foot.2 k e
    · rw [x] at e; injection e with e; subst e; exact hS

theorem make_bools (w : World) : (Instr.makeSlice 122 (.int .i64 512) (.int .i64 512)).run Try.prog w = .ok (.slice (some ⟨w.heap.size, 0, none⟩) 512 512) (w.alloc (.cells (tab 512 (boolF (fun _ => false))) 4)) := by kernel_rfl

theorem one_slotV (s : Slot) {d : Value} (hd : d.oneCell' = true) : ∀ u ∈ slotV s d, u.oneCell' = true := by
  intro u hu
  rcases s with _ | ⟨f, t⟩
  · simp [slotV] at hu
    rcases hu with rfl | rfl | rfl | rfl | rfl | rfl | rfl <;> rfl
  · simp [slotV] at hu
    rcases hu with rfl | rfl | rfl | rfl | rfl | rfl | rfl | rfl <;> first | rfl | exact hd

end Go.Proofs.Ytbibmgcklilpmaa
