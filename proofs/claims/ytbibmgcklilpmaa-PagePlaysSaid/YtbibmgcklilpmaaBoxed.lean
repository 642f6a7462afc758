/- A version that is built in whatever order: its box and its data. No condition. -/
import Derived.Test.YtbibmgcklilpmaaPageLaw
import Derived.Deep.RegionWith
import Derived.Deep.DeepCutAuto
namespace Go.Proofs.Ytbibmgcklilpmaa
open Go.RowKit Go.Lap

theorem made_tab (k : Nat) : madeCells (Value.cells (.int .u8 0)) k = tab k (byteF (fun _ => 0)) := by
  apply tab_of
  · simp [madeCells]
  · intro i hi
    simp [madeCells, hi, Value.cells, byteF, Nat.mod_one]

set_option maxRecDepth 100000 in
theorem make_u8 (k : Nat) (hk : k ≤ 100000) (w : World) : (Instr.makeSlice 48 (.int .i64 (k : Int)) (.int .i64 (k : Int))).run Try.prog w = .ok (.slice (some ⟨w.heap.size, 0, none⟩) k k) (w.alloc (.cells (tab k (byteF (fun _ => 0))) 5)) := by
  obtain ⟨i, z, ht, hi, h0, h1, h2, h3, h4⟩ := elem_u8
  have hz : z = .int .u8 0 := by
    have : (Try.prog.info? 5).map (fun i => i.zero) = some (some (.int .u8 0)) := by kernel_rfl
    rw [hi] at this
    simp [h0] at this
    exact this
  subst hz
  have hr := run_make (P := Try.prog) w 48 5 i (.int .u8 0) ht hi h0 .i64 .i64 k k (by omega) (by omega) (by rw [h2]; omega) (by omega)
  simp only [Int.toNat_natCast] at hr
  rw [hr, h1, Nat.mul_one, made_tab]

/-- Six cells of a block are written, one behind the other. -/
abbrev sixSet (w : World) (b : Nat) (v0 v1 v2 v3 v4 v5 : Value) : World :=
  (((((w.setCell ⟨b, 0, none⟩ v0).setCell ⟨b, 1, none⟩ v1).setCell ⟨b, 2, none⟩ v2).setCell ⟨b, 3, none⟩ v3).setCell ⟨b, 4, none⟩ v4).setCell ⟨b, 5, none⟩ v5

theorem sixSet_same {w : World} {b : Nat} {c0 c1 c2 c3 c4 c5 : Value} {t : TypeId} (h : w.heap[b]? = some (.cells #[c0, c1, c2, c3, c4, c5] t (0, 0))) (v0 v1 v2 v3 v4 v5 : Value) :
    (sixSet w b v0 v1 v2 v3 v4 v5).heap[b]? = some (.cells #[v0, v1, v2, v3, v4, v5] t (0, 0)) := by
  unfold sixSet
  rw [set_same (set_same (set_same (set_same (set_same (set_same h _ _) _ _) _ _) _ _) _ _) _ _]
  rfl

theorem sixSet_only (w : World) (b : Nat) (v0 v1 v2 v3 v4 v5 : Value) : Only (· = b) w (sixSet w b v0 v1 v2 v3 v4 v5) :=
  ((((((Only.refl (· = b) w).setCell (p := ⟨b, 0, none⟩) (fun _ => rfl) v0).setCell (p := ⟨b, 1, none⟩) (fun _ => rfl) v1).setCell (p := ⟨b, 2, none⟩) (fun _ => rfl) v2).setCell (p := ⟨b, 3, none⟩) (fun _ => rfl) v3).setCell (p := ⟨b, 4, none⟩) (fun _ => rfl) v4).setCell (p := ⟨b, 5, none⟩) (fun _ => rfl) v5

/-- A version is built, its data made, its next place told by a call: in whatever order: the box lies at tb, the data at db. -/
structure Boxed (w wx : World) (tb db k : Nat) (v0 v1 v2 v3 v4 : Value) : Prop where
  quiet : Quiet w wx
  box : wx.heap[tb]? = some (.cells #[v0, v1, v2, v3, v4, .slice (some ⟨db, 0, none⟩) k k] 54 (0, 0))
  data : Bk wx db k 5 (fun _ => 0)
  tb_ : w.heap.size ≤ tb
  db_ : w.heap.size ≤ db

section
variable {w1 w2 : World} {k : Nat} {v0 v1 v2 v3 v4 c0 c1 c2 c3 c4 c5 : Value}
theorem Boxed.a (h : Quiet w1.drew w2) : Boxed w1 ((w2.alloc (.cells (tab k (byteF (fun _ => 0))) 5)).alloc (.cells #[v0, v1, v2, v3, v4, .slice (some ⟨w2.heap.size, 0, none⟩) k k] 54)) (w2.heap.size + 1) w2.heap.size k v0 v1 v2 v3 v4 := by
  have hq : Quiet w1 w2 := ((Only.refl _ _).drew).trans h
  have := hq.size
  exact ⟨(hq.alloc _).alloc _, two_new _ _ _, alloc_old (alloc_new _ _) _, by omega, by omega⟩
theorem Boxed.b (h : Quiet w1.drew w2) : Boxed w1 ((w2.alloc (.cells #[v0, v1, v2, v3, v4, .slice (some ⟨w2.heap.size + 1, 0, none⟩) k k] 54)).alloc (.cells (tab k (byteF (fun _ => 0))) 5)) w2.heap.size (w2.heap.size + 1) k v0 v1 v2 v3 v4 := by
  have hq : Quiet w1 w2 := ((Only.refl _ _).drew).trans h
  have := hq.size
  exact ⟨(hq.alloc _).alloc _, alloc_old (alloc_new _ _) _, two_new _ _ _, by omega, by omega⟩
theorem Boxed.c (h : Quiet (w1.alloc (.cells (tab k (byteF (fun _ => 0))) 5)).drew w2) : Boxed w1 (w2.alloc (.cells #[v0, v1, v2, v3, v4, .slice (some ⟨w1.heap.size, 0, none⟩) k k] 54)) w2.heap.size w1.heap.size k v0 v1 v2 v3 v4 := by
  have hq : Quiet w1 w2 := (((Only.refl _ _).alloc _).drew).trans h
  have := hq.size
  exact ⟨hq.alloc _, alloc_new _ _, alloc_old (h.get (alloc_new w1 _) (fun x => x)) _, by omega, Nat.le_refl _⟩
theorem Boxed.d (h : Quiet ((w1.alloc (.cells (tab k (byteF (fun _ => 0))) 5)).alloc (.cells #[c0, c1, c2, c3, c4, c5] 54)).drew w2) : Boxed w1 (sixSet w2 (w1.heap.size + 1) v0 v1 v2 v3 v4 (.slice (some ⟨w1.heap.size, 0, none⟩) k k)) (w1.heap.size + 1) w1.heap.size k v0 v1 v2 v3 v4 := by
  have hq : Quiet w1 w2 := ((((Only.refl _ _).alloc _).alloc _).drew).trans h
  have ho := sixSet_only w2 (w1.heap.size + 1) v0 v1 v2 v3 v4 (.slice (some ⟨w1.heap.size, 0, none⟩) k k)
  exact ⟨hq.trans' ho (fun k hk e => by omega), sixSet_same (h.get (two_new w1 _ _) (fun x => x)) _ _ _ _ _ _, ho.get (h.get (alloc_old (alloc_new w1 _) _) (fun x => x)) (fun e => by omega), by omega, Nat.le_refl _⟩
theorem Boxed.e (h : Quiet (w1.alloc (.cells #[c0, c1, c2, c3, c4, c5] 54)).drew w2) : Boxed w1 ((sixSet w2 w1.heap.size v0 v1 v2 v3 v4 (.slice (some ⟨w2.heap.size, 0, none⟩) k k)).alloc (.cells (tab k (byteF (fun _ => 0))) 5)) w1.heap.size w2.heap.size k v0 v1 v2 v3 v4 := by
  have hq : Quiet w1 w2 := (((Only.refl _ _).alloc _).drew).trans h
  have hs := hq.size
  have ho := sixSet_only w2 w1.heap.size v0 v1 v2 v3 v4 (.slice (some ⟨w2.heap.size, 0, none⟩) k k)
  have hsz : (sixSet w2 w1.heap.size v0 v1 v2 v3 v4 (.slice (some ⟨w2.heap.size, 0, none⟩) k k)).heap.size = w2.heap.size := by simp [sixSet, World.setCell]
  refine ⟨(hq.trans' ho (fun k hk e => by omega)).alloc _, alloc_old (sixSet_same (h.get (alloc_new w1 _) (fun x => x)) _ _ _ _ _ _) _, ?_, Nat.le_refl _, hs⟩
  have := alloc_new (sixSet w2 w1.heap.size v0 v1 v2 v3 v4 (.slice (some ⟨w2.heap.size, 0, none⟩) k k)) (.cells (tab k (byteF (fun _ => 0))) 5)
  rw [hsz] at this
  exact this
theorem Boxed.f (h : Quiet ((w1.alloc (.cells #[c0, c1, c2, c3, c4, c5] 54)).alloc (.cells (tab k (byteF (fun _ => 0))) 5)).drew w2) : Boxed w1 (sixSet w2 w1.heap.size v0 v1 v2 v3 v4 (.slice (some ⟨w1.heap.size + 1, 0, none⟩) k k)) w1.heap.size (w1.heap.size + 1) k v0 v1 v2 v3 v4 := by
  have hq : Quiet w1 w2 := ((((Only.refl _ _).alloc _).alloc _).drew).trans h
  have ho := sixSet_only w2 w1.heap.size v0 v1 v2 v3 v4 (.slice (some ⟨w1.heap.size + 1, 0, none⟩) k k)
  exact ⟨hq.trans' ho (fun k hk e => by omega), sixSet_same (h.get (alloc_old (alloc_new w1 _) _) (fun x => x)) _ _ _ _ _ _, ho.get (h.get (two_new w1 _ _) (fun x => x)) (fun e => by omega), Nat.le_refl _, by omega⟩
end

end Go.Proofs.Ytbibmgcklilpmaa
