/- What copy and clear do to a block of bytes. No condition. -/
import Derived.Test.YtbibmgcklilpmaaPageWalk4
namespace Go.Proofs.Ytbibmgcklilpmaa
open Go.RowKit Go.Lap

/-- Block b has these bytes, all else is as it was. -/
def relaid (w : World) (b N : Nat) (g : Nat → Nat) : World := w.setRow b (tab N (byteF g))

theorem relaid_bk {w : World} {b N : Nat} {t : TypeId} {g : Nat → Nat} (h : Bk w b N t g) (g' : Nat → Nat) : Bk (relaid w b N g') b N t g' := setRow_heap w b _ _ t _ h

theorem relaid_only (w : World) (b N : Nat) (g : Nat → Nat) : Only (· = b) w (relaid w b N g) :=
  ⟨rfl, rfl, rfl, by simp [relaid, World.setRow], fun k _ hn => setRow_other w b k _ (fun e => hn (by first | exact e | exact e.symm))⟩

theorem lay_list (N off n : Nat) (g f : Nat → Nat) (h : off + n ≤ N) : ((tab N (byteF g)).toList.take off ++ firstV n f ++ (tab N (byteF g)).toList.drop (off + n)).toArray = tab N (byteF (layF g off n f)) := by
  have hl : (tab N (byteF g)).toList.length = N := by simp [tab_size]
  have hf : (firstV n f).length = n := by simp [firstV]
  apply tab_of
  · simp [hl, hf, tab_size]; omega
  · intro i hi
    rw [List.getElem?_toArray, List.getElem?_append, List.getElem?_append, List.length_append, List.length_take, hl, hf]
    have hm : min off N = off := by omega
    rw [hm]
    by_cases h1 : i < off
    · rw [if_pos (by omega), if_pos h1, List.getElem?_take, if_pos h1, Array.getElem?_toList, tab_get hi]
      unfold byteF
      rw [layF_out (by omega)]
    · by_cases h2 : i < off + n
      · rw [if_pos h2, if_neg h1]
        have e : i = off + (i - off) := by omega
        rw [show byteF (layF g off n f) i = .int .u8 (f (i - off)) by unfold byteF; rw [e, layF_in (by omega)]; simp]
        simp [firstV, show i - off < n by omega]
      · rw [if_neg h2, List.getElem?_drop, Array.getElem?_toList, show off + n + (i - (off + n)) = i by omega, tab_get hi]
        unfold byteF
        rw [layF_out (by omega)]

theorem size_u8 : (Try.prog.info? 5).map (·.size) = some 1 := by kernel_rfl
theorem zero_u8 (w : World) : (zeroValue 5).run Try.prog w = .ok (.int .u8 0) w := by kernel_rfl

theorem firstV_get {n j : Nat} {f : Nat → Nat} {v : Value} (h : (firstV n f)[j]? = some v) : j < n ∧ v = .int .u8 (f j) := by
  unfold firstV at h
  rw [List.getElem?_map, List.getElem?_map] at h
  by_cases hj : j < n
  · simp [hj] at h
    exact ⟨hj, h.symm⟩
  · simp [hj] at h

theorem one_first (n : Nat) (f : Nat → Nat) : ∀ v ∈ firstV n f, v.oneCell' = true := by
  intro u hu
  obtain ⟨x, _, rfl⟩ := List.mem_map.1 hu
  rfl

set_option maxRecDepth 100000 in
/-- copy into a block of bytes. -/
theorem copy_run (w : World) (b N off dl dc : Nat) (t : TypeId) (g : Nat → Nat) (hb : Bk w b N t g) (sb so n sc : Nat) (f : Nat → Nat) (hsrc : ∀ j, j < n → w.cell? ⟨sb, so + j, none⟩ = some (.int .u8 (f j))) (hn : n ≤ dl) (hN : off + n ≤ N) (ty : TypeId) :
    (Builtin.copy_ #[48, 48] ty #[.slice (some ⟨b, off, none⟩) dl dc, .slice (some ⟨sb, so, none⟩) n sc]).run Try.prog w = .ok (.int .i64 n) (relaid w b N (layF g off n f)) := by
  have hl : (firstV n f).length = n := by simp [firstV]
  rw [run_copy_row _ w _ _ ty 5 b off dl dc ⟨sb, so, none⟩ n sc _ t (firstV n f) Try.underlying48 size_u8 hb (by rw [hl]; exact (Nat.min_eq_left hn).symm)
    (fun j v hv => by obtain ⟨hj, rfl⟩ := firstV_get hv; rw [add_none]; exact hsrc j hj) (by rw [hl, tab_size]; exact hN) (one_first n f)]
  rw [hl, lay_list N off n g f hN]
  rfl

set_option maxRecDepth 100000 in
/-- clear of a part of a block of bytes. -/
theorem clear_run (w : World) (b N off n c : Nat) (t : TypeId) (g : Nat → Nat) (hb : Bk w b N t g) (hN : off + n ≤ N) (ty : TypeId) :
    (Builtin.clear_ #[48] ty #[.slice (some ⟨b, off, none⟩) n c]).run Try.prog w = .ok (.tuple #[]) (relaid w b N (layF g off n (fun _ => 0))) := by
  have hl : (firstV n (fun _ => 0)).length = n := by simp [firstV]
  have hst := run_storeCells_at Try.prog b off t (firstV n (fun _ => 0)) 0 _ w hb (by rw [hl, tab_size]; omega) (one_first n _)
  rw [Nat.add_zero, hl, lay_list N off n g _ hN] at hst
  have hz : (Builtin.zeroCells (Value.cells (.int .u8 0)) n).toList = firstV n (fun _ => 0) := by
    simp [Builtin.zeroCells, Value.cells, firstV]
    intro a _
    simp [Nat.mod_one]
  unfold relaid
  rcases n with _ | m
  · have e : w.setRow b (tab N (byteF (layF g off 0 (fun _ => 0)))) = w := by
      rw [tab_ext (g := byteF g) (fun i _ => by unfold byteF; rw [layF_out (by omega)])]
      exact setRow_self w b _ t (0, 0) hb
    rw [e]
    simp [Builtin.clear_, run_underlying Try.underlying48]
  · simp [Builtin.clear_, run_underlying Try.underlying48, zero_u8, hz, hst]

end Go.Proofs.Ytbibmgcklilpmaa
