/- YardNil: a nil yard; sessions that there aren't; and what no yard can be. No condition. -/
import Derived.Test.YtahfajdmhnjkeaaGreatDoorYNew
namespace Go.Proofs.YtahfajdmhnjkeaaGreatDoor
open Go.RowKit Go.Lap

theorem results_cell_one {P : Program} {fn : Func} {p q : Tmp} {ty : TypeId} (h : fn.results = #[.cell p ty, .tmp q]) (tmps : Array Value) (w : World) (g : Nat) (t : TypeId) (cs : Array Value) (fr : Nat × Nat) (d : TypeDesc)
    (hp : tmps.getD p undef = .pointer (some ⟨g, 0, none⟩)) (hg : w.heap[g]? = some (.cells cs t fr))
    (hu : P.underlying ty = some d) (hd : (match d with | .struct _ | .array _ _ => true | _ => false) = true) (hi : (P.info? ty).map (·.size) = some cs.size) :
    (results fn tmps).run P w = .ok (.tuple #[.agg cs, tmps.getD q undef]) w := by
  have hp' : tmps[p]?.getD undef = .pointer (some ⟨g, 0, none⟩) := by simpa using hp
  simp [results, h, hp', asAddr, run_loadVar_row w g t ty cs fr d hg hu hd hi]

theorem info_event : (Tryz.prog.info? 34).map (·.size) = some 10 := by kernel_rfl

/-- Nothing came of it. -/
abbrev noneV : Array Value := #[.int .i64 0, .int .i64 0, .int .i64 0, .slice none 0 0, .slice none 0 0, .int .i64 0, .int .i64 0, .int .u64 0, .int .u64 0, .int .i64 0]

set_option maxHeartbeats 1000000 in
set_option maxRecDepth 100000 in
theorem none_pick (n : Int) (w : World) : Calls Tryz.prog 5 #[.pointer none, .int .i64 n] w (fun e w' => e = .returned (.tuple #[.agg noneV, .int .i64 15]) ∧ Only (fun _ => False) w w') := by
  have hq := Only.refl (fun _ => False) w
  go_enter Tryz.func5, Tryz.ntmps5
  go_wp2
  exact bodyPost_ret (results_cell_one Tryz.results5 _ _ w.heap.size _ _ (0, 0) _ (by rfl) (alloc_new w _) Tryz.underlying34 rfl info_event) (by rfl) ⟨rfl, hq.alloc _⟩

set_option maxRecDepth 100000 in
theorem kind_event (W : World) : (Instr.field 34 (.agg noneV) 0).run Tryz.prog W = .ok (.int .i64 0) W := by kernel_rfl

set_option maxHeartbeats 1000000 in
set_option maxRecDepth 100000 in
theorem none_run {w : World} {b : Nat} {n : Int} (hc : w.cell? ⟨b, 0, none⟩ = some (.int .i64 n)) : Calls Tryz.prog 6 #[.pointer none, .slice (some ⟨b, 0, none⟩) 1 1] w (fun e w' => e = .returned (.int .i64 0) ∧ Only (fun _ => False) w w') := by
  have lb := cell_lt hc
  dsimp only at lb
  go_enter Tryz.func6, Tryz.ntmps6
  go_wp2
  refine wp_loop_rounds 2 ?_
  rw [rounds_succ]
  go_wp2_with fail
  refine (none_pick n _).mono ?_
  rintro e w1 ⟨rfl, hq1⟩
  have HQ := Lib.hid hq1
  have hf := kind_event
  clear hq1 hc lb
  go_wp2_with fail
  rw [rounds_succ]
  go_wp2_with fail
  go_ret
  exact ⟨rfl, HQ.out.alloc _⟩

set_option maxHeartbeats 1000000 in
set_option maxRecDepth 100000 in
theorem none_finish (w : World) : Calls Tryz.prog 7 #[.pointer none] w (fun e w' => e = .returned (.int .i64 0) ∧ w = w') := by
  go_enter Tryz.func7, Tryz.ntmps7
  go_wp2
  go_ret
  exact ⟨rfl, rfl⟩

set_option maxHeartbeats 1000000 in
set_option maxRecDepth 100000 in
theorem none_answers (n : Int) (w : World) : Calls Tryz.prog 8 #[.pointer none, .int .i64 n] w (fun e w' => e = .returned (.slice none 0 0) ∧ w = w') := by
  go_enter Tryz.func8, Tryz.ntmps8
  go_wp2
  go_ret
  exact ⟨rfl, rfl⟩

set_option maxHeartbeats 1000000 in
set_option maxRecDepth 100000 in
theorem none_left (n : Int) (w : World) : Calls Tryz.prog 9 #[.pointer none, .int .i64 n] w (fun e w' => e = .returned (.int .i64 0) ∧ w = w') := by
  go_enter Tryz.func9, Tryz.ntmps9
  go_wp2
  go_ret
  exact ⟨rfl, rfl⟩

set_option maxHeartbeats 1000000 in
set_option maxRecDepth 100000 in
theorem none_desk (w : World) : Calls Tryz.prog 10 #[.pointer none] w (fun e w' => e = .returned (.pointer none) ∧ w = w') := by
  go_enter Tryz.func10, Tryz.ntmps10
  go_wp2
  go_ret
  exact ⟨rfl, rfl⟩

set_option maxHeartbeats 1000000 in
set_option maxRecDepth 100000 in
theorem some_answers1 (p : Addr) (w : World) : Calls Tryz.prog 8 #[.pointer (some p), .int .i64 (-1)] w (fun e w' => e = .returned (.slice none 0 0) ∧ w = w') := by
  go_enter Tryz.func8, Tryz.ntmps8
  go_wp2
  go_ret
  exact ⟨rfl, rfl⟩

set_option maxHeartbeats 1000000 in
set_option maxRecDepth 100000 in
theorem some_left1 (p : Addr) (w : World) : Calls Tryz.prog 9 #[.pointer (some p), .int .i64 (-1)] w (fun e w' => e = .returned (.int .i64 0) ∧ w = w') := by
  go_enter Tryz.func9, Tryz.ntmps9
  go_wp2
  go_ret
  exact ⟨rfl, rfl⟩

set_option maxHeartbeats 1000000 in
set_option maxRecDepth 100000 in
theorem some_answers9 {yb n ob : Nat} {dv vl : Value} (w : World) (hn : n ≤ 6) (hb : w.heap[yb]? = some (.cells #[dv, vl, .slice (some ⟨ob, 0, none⟩) n n] 52 (0, 0))) :
    Calls Tryz.prog 8 #[.pointer (some ⟨yb, 0, none⟩), .int .i64 9] w (fun e w' => e = .returned (.slice none 0 0) ∧ w = w') := by
  have c2 : w.cell? ⟨yb, 2, none⟩ = some (.slice (some ⟨ob, 0, none⟩) n n) := by rw [cell_of hb]; rfl
  have lb := lt_of_get hb
  clear hb
  go_enter Tryz.func8, Tryz.ntmps8
  go_wp2
  go_ret
  exact ⟨rfl, rfl⟩
set_option maxHeartbeats 4000000 in
set_option maxRecDepth 100000 in
theorem nil_law (pages n : Int) (A : Option Addr) (k cap : Nat) (w : World) (hG : Glob w) (hk : k ≤ cap) (hcap : cap ≤ maxLen) (hL : Lists w A k maxLen) :
    Calls Tryz.prog 3 #[.int .i64 pages, .int .i64 n, .slice A k cap] w (fun e w' => e = .returned (.bool true) ∧ Only (fun _ => False) w w') := by
  have HG := Lib.hid hG
  have HL := Lib.hid hL
  clear hG hL
  go_enter Tryz.func3, Tryz.ntmps3
  go_wp2_with fail
  refine (awake_any HG.out).mono ?_
  rintro e w1 ⟨rfl, hq1⟩
  have HQ1 := Lib.hid hq1
  clear hq1
  go_wp2_with fail
  refine (none_pick n _).mono ?_
  rintro e w2 ⟨rfl, hq2⟩
  have HQ2 := Lib.hid (HQ1.out.trans hq2)
  clear hq2 HQ1
  have HQ3' := fun o1 o2 => Lib.hid ((HQ2.out.alloc o1).alloc o2)
  have HRUN : Hid (∀ o, Calls Tryz.prog 6 #[.pointer none, .slice (some ⟨w2.heap.size + 1, 0, none⟩) 1 1] ((w2.alloc o).alloc (.cells #[.int .i64 n] 3)) (fun e w' => e = .returned (.int .i64 0) ∧ Only (fun _ => False) ((w2.alloc o).alloc (.cells #[.int .i64 n] 3)) w')) := fun o => none_run (by
    have := alloc_new (w2.alloc o) (.cells #[.int .i64 n] 3)
    rw [World.size_alloc] at this
    rw [cell_of this]; rfl)
  go_wp2_with fail
  refine (HRUN.out _).mono ?_
  rintro e w3 ⟨rfl, hq3⟩
  have HQ3 := Lib.hid (((HQ2.out.alloc _).alloc _).trans hq3)
  clear hq3 HQ2 HQ3' HRUN
  go_wp2_with fail
  refine (none_finish _).mono ?_
  rintro e w4 ⟨rfl, rfl⟩
  go_wp2_with fail
  refine (none_answers n _).mono ?_
  rintro e w4 ⟨rfl, rfl⟩
  go_wp2_with fail
  refine (none_left n _).mono ?_
  rintro e w4 ⟨rfl, rfl⟩
  go_wp2_with fail
  refine (none_desk _).mono ?_
  rintro e w4 ⟨rfl, rfl⟩
  go_wp2_with fail
  refine (few_any A k cap _ (HL.out.kept HQ3.out) hk hcap).mono ?_
  rintro e w5 ⟨v, m, xs, rfl, hm9, hlots⟩
  obtain ⟨A2, c2, rfl, hc2, hm2, hl2⟩ := hlots.lists
  have HQ5 := Lib.hid (HQ3.out.trans hlots.quiet)
  have HL2 := Lib.hid hl2
  clear hlots hl2 HQ3
  go_wp2_with fail
  refine (yard_new A2 m c2 pages _ (HG.out.kept HQ5.out) HL2.out hc2 hm2 hm9).mono ?_
  rintro e w6 ⟨hq6, hcase⟩
  have HQ6 := Lib.hid (HQ5.out.trans hq6)
  clear hq6 HQ5 HL2
  rcases hcase with ⟨h6, rfl⟩ | ⟨h6, hp, rfl⟩ | ⟨h6, p0, p1, yb, dv, vl, ob, rfl, hb⟩
  · have d6 : decide ((m : Int) ≤ 6) = false := decide_eq_false (by omega)
    have d7 : decide (6 < (m : Int)) = true := decide_eq_true (by omega)
    go_wp2_with fail
    all_goals (refine (none_answers _ _).mono ?_; rintro e w7 ⟨rfl, rfl⟩; go_wp2_with fail; refine (none_answers _ _).mono ?_; rintro e w7 ⟨rfl, rfl⟩; go_wp2_with fail; refine (none_left _ _).mono ?_; rintro e w7 ⟨rfl, rfl⟩; go_wp2_with fail; go_ret; exact ⟨rfl, HQ6.out⟩)
  · have d6 : decide ((m : Int) ≤ 6) = true := decide_eq_true (by omega)
    rcases hp with hp | hp
    · have d8 : decide (0 ≤ pages) = false := decide_eq_false (by omega)
      go_wp2_with fail
      all_goals (refine (none_answers _ _).mono ?_; rintro e w7 ⟨rfl, rfl⟩; go_wp2_with fail; refine (none_answers _ _).mono ?_; rintro e w7 ⟨rfl, rfl⟩; go_wp2_with fail; refine (none_left _ _).mono ?_; rintro e w7 ⟨rfl, rfl⟩; go_wp2_with fail; go_ret; exact ⟨rfl, HQ6.out⟩)
    · have d8 : decide (0 ≤ pages) = true := decide_eq_true (by omega)
      have d9 : decide (pages ≤ 256) = false := decide_eq_false (by omega)
      go_wp2_with fail
      all_goals (refine (none_answers _ _).mono ?_; rintro e w7 ⟨rfl, rfl⟩; go_wp2_with fail; refine (none_answers _ _).mono ?_; rintro e w7 ⟨rfl, rfl⟩; go_wp2_with fail; refine (none_left _ _).mono ?_; rintro e w7 ⟨rfl, rfl⟩; go_wp2_with fail; go_ret; exact ⟨rfl, HQ6.out⟩)
  · have HB := Lib.hid hb
    clear hb
    go_wp2_with fail
    refine (some_answers1 _ _).mono ?_
    rintro e w7 ⟨rfl, rfl⟩
    go_wp2_with fail
    refine (some_answers9 _ h6 HB.out).mono ?_
    rintro e w7 ⟨rfl, rfl⟩
    go_wp2_with fail
    refine (some_left1 _ _).mono ?_
    rintro e w7 ⟨rfl, rfl⟩
    go_wp2_with fail
    go_ret
    exact ⟨rfl, HQ6.out⟩
end Go.Proofs.YtahfajdmhnjkeaaGreatDoor
