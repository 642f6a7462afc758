/- The contract of the document's Same on versions. No condition. -/
import Derived.Test.YtbibmgcklilpmaaRef5
namespace Go.Proofs.Ytbibmgcklilpmaa
open Go.RowKit Go.Lap

set_option maxHeartbeats 1000000 in
set_option maxRecDepth 100000 in
theorem rsame_any (a b : Tup) (A B : Option Addr) (ca cb : Nat) (S S' : Nat → Prop) (w : World) (hd : Rd w S 1 A a.data.length (bytesV a.data)) (hd' : Rd w S' 1 B b.data.length (bytesV b.data)) (hy : ∀ x ∈ a.data, x < 256) (hy' : ∀ x ∈ b.data, x < 256) :
    Calls Try.prog 38 #[tupV a A ca, tupV b B cb] w fun e w' => e = .returned (.bool (sameT a b)) ∧ Quiet w w' := by
  unfold tupV
  have hq0 : Quiet w ((w.alloc (.cells #[.int .u64 a.row, .int .u64 a.xmin, .int .u64 a.xmax, .int .i64 a.pg, .int .i64 a.sl, .slice A a.data.length ca] 54)).alloc (.cells #[.int .u64 b.row, .int .u64 b.xmin, .int .u64 b.xmax, .int .i64 b.pg, .int .i64 b.sl, .slice B b.data.length cb] 54)) := ((Only.refl _ _).alloc _).alloc _
  have HS := Lib.hid (same_any A B ca cb a.data b.data S S' _ (hd.kept hq0 (fun _ _ x => x)) (hd'.kept hq0 (fun _ _ x => x)) hy hy')
  have HQ := Lib.hid hq0
  have hR : sameT a b = decide (a.row = b.row ∧ a.xmin = b.xmin ∧ a.xmax = b.xmax ∧ a.pg = b.pg ∧ a.sl = b.sl ∧ a.data = b.data) := rfl
  clear hd hd' hy hy' hq0
  by_cases e0 : a.row = b.row
  · have d0 : (((a.row : Nat) : Int) == ((b.row : Nat) : Int)) = true := by simp [e0]
    by_cases e1 : a.xmin = b.xmin
    · have d1 : (((a.xmin : Nat) : Int) == ((b.xmin : Nat) : Int)) = true := by simp [e1]
      by_cases e2 : a.xmax = b.xmax
      · have d2 : (((a.xmax : Nat) : Int) == ((b.xmax : Nat) : Int)) = true := by simp [e2]
        by_cases e3 : a.pg = b.pg
        · have d3 : (a.pg == b.pg) = true := by simp [e3]
          by_cases e4 : a.sl = b.sl
          · have d4 : (a.sl == b.sl) = true := by simp [e4]
            have hT : Hid (sameT a b = decide (a.data = b.data)) := by rw [hR]; simp only [decide_eq_decide]; exact ⟨fun h => h.2.2.2.2.2, fun h => ⟨e0, e1, e2, e3, e4, h⟩⟩
            clear hR e0 e1 e2 e3 e4
            go_enter Try.func38, Try.ntmps38
            go_wp2_with fail
            refine HS.out.mono ?_
            rintro e w1 ⟨rfl, rfl⟩
            go_wp2
            go_ret
            rw [hT.out]
            exact ⟨rfl, HQ.out⟩
          · have hT : Hid (sameT a b = false) := by rw [hR]; exact decide_eq_false (fun h => e4 h.2.2.2.2.1)
            have d4 : (a.sl == b.sl) = false := by simp; omega
            clear hR e0 e1 e2 e3 e4
            go_enter Try.func38, Try.ntmps38
            go_wp2
            go_ret
            rw [hT.out]
            exact ⟨rfl, HQ.out⟩
        · have hT : Hid (sameT a b = false) := by rw [hR]; exact decide_eq_false (fun h => e3 h.2.2.2.1)
          have d3 : (a.pg == b.pg) = false := by simp; omega
          clear hR e0 e1 e2 e3
          go_enter Try.func38, Try.ntmps38
          go_wp2
          go_ret
          rw [hT.out]
          exact ⟨rfl, HQ.out⟩
      · have hT : Hid (sameT a b = false) := by rw [hR]; exact decide_eq_false (fun h => e2 h.2.2.1)
        have d2 : (((a.xmax : Nat) : Int) == ((b.xmax : Nat) : Int)) = false := by simp; omega
        clear hR e0 e1 e2
        go_enter Try.func38, Try.ntmps38
        go_wp2
        go_ret
        rw [hT.out]
        exact ⟨rfl, HQ.out⟩
    · have hT : Hid (sameT a b = false) := by rw [hR]; exact decide_eq_false (fun h => e1 h.2.1)
      have d1 : (((a.xmin : Nat) : Int) == ((b.xmin : Nat) : Int)) = false := by simp; omega
      clear hR e0 e1
      go_enter Try.func38, Try.ntmps38
      go_wp2
      go_ret
      rw [hT.out]
      exact ⟨rfl, HQ.out⟩
  · have hT : Hid (sameT a b = false) := by rw [hR]; exact decide_eq_false (fun h => e0 h.1)
    have d0 : (((a.row : Nat) : Int) == ((b.row : Nat) : Int)) = false := by simp; omega
    clear hR e0
    go_enter Try.func38, Try.ntmps38
    go_wp2
    go_ret
    rw [hT.out]
    exact ⟨rfl, HQ.out⟩

end Go.Proofs.Ytbibmgcklilpmaa
