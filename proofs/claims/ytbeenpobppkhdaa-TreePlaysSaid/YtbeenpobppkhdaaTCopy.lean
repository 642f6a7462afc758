/- The contract of the tree's copyOf; three cells written. No condition. -/
import Derived.Test.YtbeenpobppkhdaaTSmall
namespace Go.Lap
open Go.RowKit

def triSet (w : World) (b : Nat) (x y z : Value) : World := ((w.setCell ⟨b, 0, none⟩ x).setCell ⟨b, 1, none⟩ y).setCell ⟨b, 2, none⟩ z

theorem triSet_same {w : World} {b : Nat} {t : TypeId} {fr : Nat × Nat} {a c d : Value} (h : w.heap[b]? = some (.cells #[a, c, d] t fr)) (x y z : Value) : (triSet w b x y z).heap[b]? = some (.cells #[x, y, z] t fr) := by
  unfold triSet
  rw [set_same (set_same (set_same h 0 x) 1 y) 2 z]
  rfl

theorem triSet_only (w : World) (b : Nat) (x y z : Value) : Only (· = b) w (triSet w b x y z) :=
  (((Only.refl (· = b) w).setCell (p := ⟨b, 0, none⟩) (fun _ => rfl) _).setCell (p := ⟨b, 1, none⟩) (fun _ => rfl) _).setCell (p := ⟨b, 2, none⟩) (fun _ => rfl) _

end Go.Lap
namespace Go.Proofs.Ytbeenpobppkhdaa
open Go.RowKit Go.Lap

set_option maxHeartbeats 1000000 in
set_option maxRecDepth 100000 in
theorem copyOf_any (e0 : Ent) (A : Option Addr) (c : Nat) (S : Nat → Prop) (w : World) (hr : Rd w S 1 A e0.key.length (bytesV e0.key)) (hl : e0.key.length ≤ 100000) :
    Calls Try.prog 29 #[entV e0 A c] w (CopyPost w e0) := by
  have hq0 : Quiet w ((w.alloc (.cells #[.slice A e0.key.length c, .int .i64 e0.pg, .int .i64 e0.sl] 34)).alloc (.cells #[.slice none 0 0, .int .i64 0, .int .i64 0] 34)) := ((Only.refl _ _).alloc _).alloc _
  have H0 := Lib.hid hq0
  obtain ⟨t0, t1, t2⟩ := ent_cells (alloc_old (alloc_new w (.cells #[.slice A e0.key.length c, .int .i64 e0.pg, .int .i64 e0.sl] 34)) (.cells #[.slice none 0 0, .int .i64 0, .int .i64 0] 34))
  have HN := Lib.hid (two_new w (.cells #[.slice A e0.key.length c, .int .i64 e0.pg, .int .i64 e0.sl] 34) (.cells #[.slice none 0 0, .int .i64 0, .int .i64 0] 34))
  have HC := Lib.hid (clone_any A c e0.key S _ (hr.kept hq0.drew (fun _ _ x => x)) hl)
  clear hr hq0
  go_enter Try.func29, Try.ntmps29
  go_wp2_with fail
  go_region_held3 (fun w' => w'.cell? ⟨w.heap.size, 0, none⟩ = some (.slice A e0.key.length c) ∧ w'.cell? ⟨w.heap.size, 1, none⟩ = some (.int .i64 e0.pg) ∧ w'.cell? ⟨w.heap.size, 2, none⟩ = some (.int .i64 e0.sl))
    (first | go_keep | fail)
    (first
      | (go_at_call 43; go_must (refine HC.out.mono ?_; rintro e w2 ⟨v2, rfl, hf2⟩; obtain ⟨A2, c2, hv2, _, _, hrd2⟩ := own_form hf2.own; subst hv2; have k0 := hf2.quiet.cell t0 (fun x => x); have k1 := hf2.quiet.cell t1 (fun x => x); have k2 := hf2.quiet.cell t2 (fun x => x); have hr2 := hf2.quiet.get HN.out (fun x => x); obtain ⟨z0, z1, z2⟩ := ent_cells hr2; have zf := fun o => frozen_of hr2 o))
      | fail)
  have HX := Lib.hid (triSet_same hr2 (.slice A2 e0.key.length c2) (.int .i64 e0.pg) (.int .i64 e0.sl))
  have hz2 := hf2.quiet.size
  have hsz : ((w.alloc (.cells #[.slice A e0.key.length c, .int .i64 e0.pg, .int .i64 e0.sl] 34)).alloc (.cells #[.slice none 0 0, .int .i64 0, .int .i64 0] 34)).drew.heap.size = w.heap.size + 2 := by show (World.alloc _ _).heap.size = _; simp
  have HP : Hid (CopyPost w e0 (.returned (entV e0 A2 c2)) (triSet w2 (w.heap.size + 1) (.slice A2 e0.key.length c2) (.int .i64 e0.pg) (.int .i64 e0.sl))) := by
    have ho := triSet_only w2 (w.heap.size + 1) (.slice A2 e0.key.length c2) (.int .i64 e0.pg) (.int .i64 e0.sl)
    have hlz : ∀ k, Value.ownBlock (.slice A2 e0.key.length c2) = some k → w.heap.size + 2 ≤ k ∧ k < w2.heap.size := fun k e => ⟨by have := hf2.new k e; omega, (hf2.own.lt k e).2⟩
    refine ⟨A2, c2, rfl, (H0.out.drew.trans hf2.quiet).trans' ho (fun k hk e => by omega), ?_⟩
    exact (Rd.kept (hrd2.mono (T := fun k => w.heap.size + 2 ≤ k ∧ k < w2.heap.size) hlz) ho (fun k hk e => by omega)).mono (fun k hk => ⟨by omega, by have := ho.size; omega⟩)
  clear hf2 hr2 hrd2 hz2 hsz HC H0 HN k0 k1 k2 z0 z1 z2 zf t0 t1 t2
  unfold triSet at HX HP
  go_wp2
  generalize (((w2.setCell ⟨w.heap.size + 1, 0, none⟩ (.slice A2 e0.key.length c2)).setCell ⟨w.heap.size + 1, 1, none⟩ (.int .i64 e0.pg)).setCell ⟨w.heap.size + 1, 2, none⟩ (.int .i64 e0.sl)) = W6 at HX HP ⊢
  exact bodyPost_ret (results_cell1 Try.results29 _ _ (w.heap.size + 1) _ _ (0, 0) _ (by rfl) HX.out Try.underlying34 rfl info_ent) (by rfl) HP.out

end Go.Proofs.Ytbeenpobppkhdaa
