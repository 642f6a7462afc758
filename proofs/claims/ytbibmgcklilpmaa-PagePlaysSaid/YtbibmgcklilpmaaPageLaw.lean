/- What the laws on pages share: nowhere, awake. No condition. -/
import Derived.Test.YtbibmgcklilpmaaPageT
import Derived.Lib.SlBytesConst
namespace Go.Proofs.Ytbibmgcklilpmaa
open Go.RowKit Go.Lap

theorem qcell {W w : World} (h : Quiet W w) : (∀ b o, b < W.heap.size → w.cell? ⟨b, o, none⟩ = W.cell? ⟨b, o, none⟩) ∧ (∀ b o, b < W.heap.size → w.frozen? ⟨b, o, none⟩ = W.frozen? ⟨b, o, none⟩) :=
  ⟨fun b o hb => World.cell?_of_block (h.block b hb (fun x => x)), fun b o hb => World.frozen?_of_block (h.block b hb (fun x => x))⟩

set_option maxHeartbeats 400000 in
set_option maxRecDepth 100000 in
theorem nowhere_any (w : World) :
    Calls Try.prog 28 #[] w fun e w' => e = .returned (.agg #[.int .i64 (-1), .int .i64 (-1)]) ∧ Quiet w w' := by
  go_enter Try.func28, Try.ntmps28
  go_wp2
  exact bodyPost_ret (v := .agg #[.int .i64 (-1), .int .i64 (-1)]) (by simp [results, Try.results28, go_sem]) rfl ⟨rfl, (Only.refl _ _).alloc _⟩

/-- The version of the document's example. -/
def tupA : Tup := { row := 1, xmin := 1, xmax := 0, pg := -1, sl := -1, data := [97] }

theorem wakeA : roomT [] = 474 ∧ pInsT [] tupA = (0, 0, [some tupA]) ∧ roomT [some tupA] = 439 ∧ tupAt [some tupA] 0 = some tupA ∧ trimT ([some tupA].set 0 none) = [] := by
  refine ⟨by decide, ?_, by decide, rfl, rfl⟩
  unfold pInsT
  rw [if_neg (by decide), if_neg (by decide)]
  rfl

theorem tupA_v (A : Option Addr) (cap : Nat) : tupV tupA A cap = .agg #[.int .u64 1, .int .u64 1, .int .u64 0, .int .i64 (-1), .int .i64 (-1), .slice A 1 cap] := rfl

theorem Rd.one (w : World) (v : Value) (e : TypeId) (fr : Nat × Nat) {S : Nat → Prop} (hS : S w.heap.size) : Rd (w.alloc (.cells #[v] e fr)) S 1 (some ⟨w.heap.size, 0, none⟩) 1 [v] := by
  refine ⟨rfl, fun _ => ⟨w.heap.size, 0, rfl, hS, fun j u hu => ?_⟩⟩
  rw [cell_of (alloc_new w _)]
  simpa using hu

set_option maxHeartbeats 400000 in
set_option maxRecDepth 100000 in
theorem awake5 (w : World) :
    Calls Try.prog 27 #[] w fun e w' => e = .returned (.bool true) ∧ Quiet w w' := by
  have kc := fun (w : World) (C : Array Value) (n c : Nat) => Lib.run_convert_bytes_const (P := Try.prog) w 48 5 C n c Try.underlying48 Try.underlying5
  go_enter Try.func27, Try.ntmps27
  go_wp2_with fail
  refine (pageT_new w).mono ?_
  rintro e w1 ⟨rfl, hq1, hs1, hp1⟩
  have HQ1 := Lib.hid hq1
  have HP1 := Lib.hid hp1
  clear hq1 hp1
  go_wp2_with fail
  refine (pageT_room _ _ _ HP1.out).mono ?_
  rintro e w2 ⟨rfl, n2, rfl⟩
  rw [wakeA.1]
  go_wp2_with fail
  refine (nowhere_any _).mono ?_
  rintro e w3 ⟨rfl, hq3⟩
  have HP3 : Hid (PageT w3 w.heap.size []) := PageT.kept (S := fun _ => False) (w := w1.drewN n2) HP1.out hq3 (fun x => x)
  have HQ3 := Lib.hid ((HQ1.out.drewN n2).trans hq3)
  clear hq3
  go_wp2_with fail
  have HI := Lib.hid (pageT_insert w.heap.size [] tupA (some ⟨w3.heap.size, 0, none⟩) 1 (fun _ => True) (w3.alloc (.cells #[.int .u8 97] 5 (1, 2))) (HP3.out.kept ((Only.refl (fun _ => False) _).alloc _) (fun x => x)) (by decide) (Rd.one w3 _ _ _ trivial))
  rw [tupA_v, wakeA.2.1] at HI
  refine HI.out.mono ?_
  rintro e w4 ⟨rfl, ho4, hp4⟩
  have HP4 := Lib.hid hp4
  have HQ4 : Hid (Quiet w w4) := (HQ3.out.alloc _).trans' ho4 (fun k hk e => by omega)
  clear ho4 hp4 HI
  go_wp2_with fail
  refine (pageT_room _ _ _ HP4.out).mono ?_
  rintro e w5 ⟨rfl, n5, rfl⟩
  rw [wakeA.2.2.1]
  go_wp2_with fail
  refine (pageT_free_some _ tupA _ 0 _ (by exact HP4.out) wakeA.2.2.2.1).mono ?_
  rintro e w6 ⟨rfl, ho6, hp6⟩
  have hp6' : PageT w6 w.heap.size [] := hp6
  have HP6 := Lib.hid hp6'
  have HQ6 : Hid (Quiet w w6) := (HQ4.out.drewN n5).trans' ho6 (fun k hk e => by omega)
  clear ho6 hp6 hp6'
  go_wp2_with fail
  refine (pageT_slots _ _ _ HP6.out).mono ?_
  rintro e w7 ⟨rfl, rfl⟩
  go_wp2_with fail
  refine (pageT_room _ _ _ HP6.out).mono ?_
  rintro e w7 ⟨rfl, n7, rfl⟩
  rw [wakeA.1]
  go_wp2
  go_ret
  exact ⟨rfl, HQ6.out.drewN n7⟩
end Go.Proofs.Ytbibmgcklilpmaa
