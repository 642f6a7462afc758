/- ExecWrites returns true for every input, and every input reads as it did; its tied card. No condition. -/
import Derived.Test.YtekecchdjkkoeaaGreatDoorSeatBase
import Derived.Test.YtekecchdjkkoeaaGreatDoorSeatJStart
import Derived.Test.YtekecchdjkkoeaaGreatDoorEvK
import Derived.Test.YtekecchdjkkoeaaGreatDoorSeatTa
import Derived.Test.YtekecchdjkkoeaaGreatDoorSeatTb
import Derived.Test.YtekecchdjkkoeaaGreatDoorSeatTc
import Derived.Test.YtekecchdjkkoeaaGreatDoorSeatW1
import Derived.Test.YtekecchdjkkoeaaGreatDoorSeatW2
import Derived.Test.YtekecchdjkkoeaaGreatDoorSeatW3
import Derived.Test.YtekecchdjkkoeaaGreatDoorSeatW4
import Derived.Test.YtekecchdjkkoeaaGreatDoorSeatW5
import Derived.Test.YtekecchdjkkoeaaGreatDoorSeatW6
import Derived.Test.YtekecchdjkkoeaaGreatDoorSeatW7
import Derived.Test.YtekecchdjkkoeaaGreatDoorSeatW8
import Derived.Test.YtekecchdjkkoeaaGreatDoorSeatW9
import Derived.Test.YtekecchdjkkoeaaGreatDoorSeatW10
import Derived.Test.YtekecchdjkkoeaaGreatDoorSeatW11
import Derived.Test.YtekecchdjkkoeaaGreatDoorSeatW12
import Derived.Test.YtekecchdjkkoeaaGreatDoorSeatW13
import Derived.Test.YtekecchdjkkoeaaGreatDoorSeatW14
import Derived.Test.YtekecchdjkkoeaaGreatDoorSeatW15
import Derived.Test.YtekecchdjkkoeaaGreatDoorSeatW16
import Derived.Test.YtekecchdjkkoeaaGreatDoorSeatW17
import Derived.Test.YtekecchdjkkoeaaGreatDoorSeatW18
import Derived.Test.YtekecchdjkkoeaaGreatDoorSeatW19
import Derived.Test.YtekecchdjkkoeaaGreatDoorSeatW20
import Derived.Test.YtekecchdjkkoeaaGreatDoorSeatW21
import Derived.Test.YtekecchdjkkoeaaGreatDoorSeatW22
import Derived.Test.YtekecchdjkkoeaaGreatDoorSeatW23
import Derived.Test.YtekecchdjkkoeaaGreatDoorSeatW24
import Derived.Test.YtekecchdjkkoeaaGreatDoorSeatW25
set_option linter.unusedVariables false
set_option linter.unusedSimpArgs false
namespace Go.Proofs.YtekecchdjkkoeaaGreatDoor.execWrites
open Go.ChangeShapes Go.WideShapes Go.ChangeAt Go.RowKit Go.Ev Go.Lib

theorem top_w (k : Nat) (nk : Nat) (tl : List (Nat × TO)) (h1 : isSomeH (hpT tl) = true) (h2 : tellOK tl nk (.ptr 11 0) (fcall Tryz.prog 5 49 100000 1000 11 (.cons (.int .i64 k) (.cons (.int .i64 0) .nil)) H0 5 fin) = true) :
    CallOK Tryz.prog 5 (fun f args H nx => topT Tryz.prog 5 49 100000 3 39 518 rsvRow 10 11 (.cons (.int .i64 k) (.cons (.int .i64 0) .nil)) (.ptr 11 0) (heapT tl) nk f args H nx) :=
  topT_ok start_inst rf_ok (ext_ok next_ok) hname (draw_ok hmix) 100000 awake20 h1 h2
theorem VL3 {env : Env} {x y z : AV} {u v t : Value} (h1 : VR env x u) (h2 : VR env y v) (h3 : VR env z t) : VL env (.cons x (.cons y (.cons z .nil))) [u, v, t] := ⟨u, [v, t], rfl, h1, v, [t], rfl, h2, t, [], rfl, h3, rfl⟩
def Ran (W : World) (n m : Nat) (b : Bool) : Prop := Calls Tryz.prog 5 #[.int .u8 n, .int .u8 m, .bool b] W fun e w' => e = .returned (.bool true) ∧ Below W.heap.size W w'
theorem ran {W : World} (hs : SR (env0 5) H0 5 W) {n m : Nat} (hn : n < 256) (hm : m < 256) (b : Bool) {ih : Nat → AV → Hp → Nat → VRes} (hc : CallOK Tryz.prog 5 ih)
    (h : okT (ih 5 (.cons (.rs .u8 15 (n % 15)) (.cons (.rs .u8 16 (m % 16)) (.cons (.bool b) .nil))) H0 5) = true) : Ran W n m b := by
  refine (calls_true hc Tryz.func5 rfl (by decide +kernel) h hs (VL3 (show VR (env0 5) (.rs .u8 15 (n % 15)) (.int .u8 n) from ⟨n, rfl, rfl, hn⟩) (show VR (env0 5) (.rs .u8 16 (m % 16)) (.int .u8 m) from ⟨m, rfl, rfl, hm⟩) (show VR (env0 5) (.bool b) (.bool b) from rfl))).mono ?_
  rintro e w' ⟨h1, h2, h3, h4, h5, h6⟩
  exact ⟨h1, h4, h5, h6, h2, h3⟩
theorem all_0 {W : World} (hs : SR (env0 5) H0 5 W) {n m : Nat} (hn : n < 256) (hm : m < 256) (b : Bool) (hk : n % 15 = 0) : Ran W n m b := by
  refine ran hs hn hm b (top_w 0 305 tl_0 some_0 tell_0) ?_
  rw [hk]
  have hlt : m % 16 < 16 := Nat.mod_lt _ (by omega)
  generalize m % 16 = s at hlt
  rcases (by omega : s = 0 ∨ s = 1 ∨ s = 2 ∨ s = 3 ∨ s = 4 ∨ s = 5 ∨ s = 6 ∨ s = 7 ∨ s = 8 ∨ s = 9 ∨ s = 10 ∨ s = 11 ∨ s = 12 ∨ s = 13 ∨ s = 14 ∨ s = 15) with rfl | rfl | rfl | rfl | rfl | rfl | rfl | rfl | rfl | rfl | rfl | rfl | rfl | rfl | rfl | rfl <;> cases b
  · exact List.all_eq_true.1 writes_1 (0, false) (by simp)
  · exact List.all_eq_true.1 writes_2 (0, true) (by simp)
  · exact List.all_eq_true.1 writes_1 (1, false) (by simp)
  · exact List.all_eq_true.1 writes_2 (1, true) (by simp)
  · exact List.all_eq_true.1 writes_1 (2, false) (by simp)
  · exact List.all_eq_true.1 writes_2 (2, true) (by simp)
  · exact List.all_eq_true.1 writes_1 (3, false) (by simp)
  · exact List.all_eq_true.1 writes_2 (3, true) (by simp)
  · exact List.all_eq_true.1 writes_1 (4, false) (by simp)
  · exact List.all_eq_true.1 writes_2 (4, true) (by simp)
  · exact List.all_eq_true.1 writes_1 (5, false) (by simp)
  · exact List.all_eq_true.1 writes_2 (5, true) (by simp)
  · exact List.all_eq_true.1 writes_1 (6, false) (by simp)
  · exact List.all_eq_true.1 writes_2 (6, true) (by simp)
  · exact List.all_eq_true.1 writes_1 (7, false) (by simp)
  · exact List.all_eq_true.1 writes_2 (7, true) (by simp)
  · exact List.all_eq_true.1 writes_1 (8, false) (by simp)
  · exact List.all_eq_true.1 writes_2 (8, true) (by simp)
  · exact List.all_eq_true.1 writes_1 (9, false) (by simp)
  · exact List.all_eq_true.1 writes_2 (9, true) (by simp)
  · exact List.all_eq_true.1 writes_1 (10, false) (by simp)
  · exact List.all_eq_true.1 writes_2 (10, true) (by simp)
  · exact List.all_eq_true.1 writes_1 (11, false) (by simp)
  · exact List.all_eq_true.1 writes_2 (11, true) (by simp)
  · exact List.all_eq_true.1 writes_1 (12, false) (by simp)
  · exact List.all_eq_true.1 writes_2 (12, true) (by simp)
  · exact List.all_eq_true.1 writes_1 (13, false) (by simp)
  · exact List.all_eq_true.1 writes_2 (13, true) (by simp)
  · exact List.all_eq_true.1 writes_1 (14, false) (by simp)
  · exact List.all_eq_true.1 writes_2 (14, true) (by simp)
  · exact List.all_eq_true.1 writes_1 (15, false) (by simp)
  · exact List.all_eq_true.1 writes_2 (15, true) (by simp)
theorem all_1 {W : World} (hs : SR (env0 5) H0 5 W) {n m : Nat} (hn : n < 256) (hm : m < 256) (b : Bool) (hk : n % 15 = 1) : Ran W n m b := by
  refine ran hs hn hm b (top_w 1 586 tl_1 some_1 tell_1) ?_
  rw [hk]
  have hlt : m % 16 < 16 := Nat.mod_lt _ (by omega)
  generalize m % 16 = s at hlt
  rcases (by omega : s = 0 ∨ s = 1 ∨ s = 2 ∨ s = 3 ∨ s = 4 ∨ s = 5 ∨ s = 6 ∨ s = 7 ∨ s = 8 ∨ s = 9 ∨ s = 10 ∨ s = 11 ∨ s = 12 ∨ s = 13 ∨ s = 14 ∨ s = 15) with rfl | rfl | rfl | rfl | rfl | rfl | rfl | rfl | rfl | rfl | rfl | rfl | rfl | rfl | rfl | rfl <;> cases b
  · exact List.all_eq_true.1 writes_3 (0, false) (by simp)
  · exact List.all_eq_true.1 writes_4 (0, true) (by simp)
  · exact List.all_eq_true.1 writes_3 (1, false) (by simp)
  · exact List.all_eq_true.1 writes_4 (1, true) (by simp)
  · exact List.all_eq_true.1 writes_3 (2, false) (by simp)
  · exact List.all_eq_true.1 writes_4 (2, true) (by simp)
  · exact List.all_eq_true.1 writes_3 (3, false) (by simp)
  · exact List.all_eq_true.1 writes_4 (3, true) (by simp)
  · exact List.all_eq_true.1 writes_3 (4, false) (by simp)
  · exact List.all_eq_true.1 writes_4 (4, true) (by simp)
  · exact List.all_eq_true.1 writes_3 (5, false) (by simp)
  · exact List.all_eq_true.1 writes_4 (5, true) (by simp)
  · exact List.all_eq_true.1 writes_3 (6, false) (by simp)
  · exact List.all_eq_true.1 writes_4 (6, true) (by simp)
  · exact List.all_eq_true.1 writes_3 (7, false) (by simp)
  · exact List.all_eq_true.1 writes_4 (7, true) (by simp)
  · exact List.all_eq_true.1 writes_3 (8, false) (by simp)
  · exact List.all_eq_true.1 writes_4 (8, true) (by simp)
  · exact List.all_eq_true.1 writes_3 (9, false) (by simp)
  · exact List.all_eq_true.1 writes_4 (9, true) (by simp)
  · exact List.all_eq_true.1 writes_3 (10, false) (by simp)
  · exact List.all_eq_true.1 writes_4 (10, true) (by simp)
  · exact List.all_eq_true.1 writes_3 (11, false) (by simp)
  · exact List.all_eq_true.1 writes_5 (11, true) (by simp)
  · exact List.all_eq_true.1 writes_4 (12, false) (by simp)
  · exact List.all_eq_true.1 writes_5 (12, true) (by simp)
  · exact List.all_eq_true.1 writes_4 (13, false) (by simp)
  · exact List.all_eq_true.1 writes_5 (13, true) (by simp)
  · exact List.all_eq_true.1 writes_4 (14, false) (by simp)
  · exact List.all_eq_true.1 writes_5 (14, true) (by simp)
  · exact List.all_eq_true.1 writes_4 (15, false) (by simp)
  · exact List.all_eq_true.1 writes_5 (15, true) (by simp)
theorem all_2 {W : World} (hs : SR (env0 5) H0 5 W) {n m : Nat} (hn : n < 256) (hm : m < 256) (b : Bool) (hk : n % 15 = 2) : Ran W n m b := by
  refine ran hs hn hm b (top_w 2 864 tl_2 some_2 tell_2) ?_
  rw [hk]
  have hlt : m % 16 < 16 := Nat.mod_lt _ (by omega)
  generalize m % 16 = s at hlt
  rcases (by omega : s = 0 ∨ s = 1 ∨ s = 2 ∨ s = 3 ∨ s = 4 ∨ s = 5 ∨ s = 6 ∨ s = 7 ∨ s = 8 ∨ s = 9 ∨ s = 10 ∨ s = 11 ∨ s = 12 ∨ s = 13 ∨ s = 14 ∨ s = 15) with rfl | rfl | rfl | rfl | rfl | rfl | rfl | rfl | rfl | rfl | rfl | rfl | rfl | rfl | rfl | rfl <;> cases b
  · exact List.all_eq_true.1 writes_6 (0, false) (by simp)
  · exact List.all_eq_true.1 writes_7 (0, true) (by simp)
  · exact List.all_eq_true.1 writes_6 (1, false) (by simp)
  · exact List.all_eq_true.1 writes_7 (1, true) (by simp)
  · exact List.all_eq_true.1 writes_6 (2, false) (by simp)
  · exact List.all_eq_true.1 writes_7 (2, true) (by simp)
  · exact List.all_eq_true.1 writes_6 (3, false) (by simp)
  · exact List.all_eq_true.1 writes_7 (3, true) (by simp)
  · exact List.all_eq_true.1 writes_6 (4, false) (by simp)
  · exact List.all_eq_true.1 writes_7 (4, true) (by simp)
  · exact List.all_eq_true.1 writes_6 (5, false) (by simp)
  · exact List.all_eq_true.1 writes_7 (5, true) (by simp)
  · exact List.all_eq_true.1 writes_6 (6, false) (by simp)
  · exact List.all_eq_true.1 writes_8 (6, true) (by simp)
  · exact List.all_eq_true.1 writes_6 (7, false) (by simp)
  · exact List.all_eq_true.1 writes_8 (7, true) (by simp)
  · exact List.all_eq_true.1 writes_6 (8, false) (by simp)
  · exact List.all_eq_true.1 writes_8 (8, true) (by simp)
  · exact List.all_eq_true.1 writes_6 (9, false) (by simp)
  · exact List.all_eq_true.1 writes_8 (9, true) (by simp)
  · exact List.all_eq_true.1 writes_7 (10, false) (by simp)
  · exact List.all_eq_true.1 writes_8 (10, true) (by simp)
  · exact List.all_eq_true.1 writes_7 (11, false) (by simp)
  · exact List.all_eq_true.1 writes_8 (11, true) (by simp)
  · exact List.all_eq_true.1 writes_7 (12, false) (by simp)
  · exact List.all_eq_true.1 writes_8 (12, true) (by simp)
  · exact List.all_eq_true.1 writes_7 (13, false) (by simp)
  · exact List.all_eq_true.1 writes_8 (13, true) (by simp)
  · exact List.all_eq_true.1 writes_7 (14, false) (by simp)
  · exact List.all_eq_true.1 writes_8 (14, true) (by simp)
  · exact List.all_eq_true.1 writes_7 (15, false) (by simp)
  · exact List.all_eq_true.1 writes_8 (15, true) (by simp)
theorem all_3 {W : World} (hs : SR (env0 5) H0 5 W) {n m : Nat} (hn : n < 256) (hm : m < 256) (b : Bool) (hk : n % 15 = 3) : Ran W n m b := by
  refine ran hs hn hm b (top_w 3 1142 tl_3 some_3 tell_3) ?_
  rw [hk]
  have hlt : m % 16 < 16 := Nat.mod_lt _ (by omega)
  generalize m % 16 = s at hlt
  rcases (by omega : s = 0 ∨ s = 1 ∨ s = 2 ∨ s = 3 ∨ s = 4 ∨ s = 5 ∨ s = 6 ∨ s = 7 ∨ s = 8 ∨ s = 9 ∨ s = 10 ∨ s = 11 ∨ s = 12 ∨ s = 13 ∨ s = 14 ∨ s = 15) with rfl | rfl | rfl | rfl | rfl | rfl | rfl | rfl | rfl | rfl | rfl | rfl | rfl | rfl | rfl | rfl <;> cases b
  · exact List.all_eq_true.1 writes_9 (0, false) (by simp)
  · exact List.all_eq_true.1 writes_11 (0, true) (by simp)
  · exact List.all_eq_true.1 writes_9 (1, false) (by simp)
  · exact List.all_eq_true.1 writes_11 (1, true) (by simp)
  · exact List.all_eq_true.1 writes_9 (2, false) (by simp)
  · exact List.all_eq_true.1 writes_11 (2, true) (by simp)
  · exact List.all_eq_true.1 writes_9 (3, false) (by simp)
  · exact List.all_eq_true.1 writes_11 (3, true) (by simp)
  · exact List.all_eq_true.1 writes_9 (4, false) (by simp)
  · exact List.all_eq_true.1 writes_11 (4, true) (by simp)
  · exact List.all_eq_true.1 writes_9 (5, false) (by simp)
  · exact List.all_eq_true.1 writes_11 (5, true) (by simp)
  · exact List.all_eq_true.1 writes_9 (6, false) (by simp)
  · exact List.all_eq_true.1 writes_11 (6, true) (by simp)
  · exact List.all_eq_true.1 writes_10 (7, false) (by simp)
  · exact List.all_eq_true.1 writes_11 (7, true) (by simp)
  · exact List.all_eq_true.1 writes_10 (8, false) (by simp)
  · exact List.all_eq_true.1 writes_11 (8, true) (by simp)
  · exact List.all_eq_true.1 writes_10 (9, false) (by simp)
  · exact List.all_eq_true.1 writes_11 (9, true) (by simp)
  · exact List.all_eq_true.1 writes_10 (10, false) (by simp)
  · exact List.all_eq_true.1 writes_11 (10, true) (by simp)
  · exact List.all_eq_true.1 writes_10 (11, false) (by simp)
  · exact List.all_eq_true.1 writes_12 (11, true) (by simp)
  · exact List.all_eq_true.1 writes_10 (12, false) (by simp)
  · exact List.all_eq_true.1 writes_12 (12, true) (by simp)
  · exact List.all_eq_true.1 writes_10 (13, false) (by simp)
  · exact List.all_eq_true.1 writes_12 (13, true) (by simp)
  · exact List.all_eq_true.1 writes_10 (14, false) (by simp)
  · exact List.all_eq_true.1 writes_12 (14, true) (by simp)
  · exact List.all_eq_true.1 writes_10 (15, false) (by simp)
  · exact List.all_eq_true.1 writes_12 (15, true) (by simp)
theorem all_4 {W : World} (hs : SR (env0 5) H0 5 W) {n m : Nat} (hn : n < 256) (hm : m < 256) (b : Bool) (hk : n % 15 = 4) : Ran W n m b := by
  refine ran hs hn hm b (top_w 4 1420 tl_4 some_4 tell_4) ?_
  rw [hk]
  have hlt : m % 16 < 16 := Nat.mod_lt _ (by omega)
  generalize m % 16 = s at hlt
  rcases (by omega : s = 0 ∨ s = 1 ∨ s = 2 ∨ s = 3 ∨ s = 4 ∨ s = 5 ∨ s = 6 ∨ s = 7 ∨ s = 8 ∨ s = 9 ∨ s = 10 ∨ s = 11 ∨ s = 12 ∨ s = 13 ∨ s = 14 ∨ s = 15) with rfl | rfl | rfl | rfl | rfl | rfl | rfl | rfl | rfl | rfl | rfl | rfl | rfl | rfl | rfl | rfl <;> cases b
  · exact List.all_eq_true.1 writes_13 (0, false) (by simp)
  · exact List.all_eq_true.1 writes_15 (0, true) (by simp)
  · exact List.all_eq_true.1 writes_13 (1, false) (by simp)
  · exact List.all_eq_true.1 writes_15 (1, true) (by simp)
  · exact List.all_eq_true.1 writes_13 (2, false) (by simp)
  · exact List.all_eq_true.1 writes_15 (2, true) (by simp)
  · exact List.all_eq_true.1 writes_13 (3, false) (by simp)
  · exact List.all_eq_true.1 writes_15 (3, true) (by simp)
  · exact List.all_eq_true.1 writes_13 (4, false) (by simp)
  · exact List.all_eq_true.1 writes_15 (4, true) (by simp)
  · exact List.all_eq_true.1 writes_14 (5, false) (by simp)
  · exact List.all_eq_true.1 writes_15 (5, true) (by simp)
  · exact List.all_eq_true.1 writes_14 (6, false) (by simp)
  · exact List.all_eq_true.1 writes_16 (6, true) (by simp)
  · exact List.all_eq_true.1 writes_14 (7, false) (by simp)
  · exact List.all_eq_true.1 writes_16 (7, true) (by simp)
  · exact List.all_eq_true.1 writes_14 (8, false) (by simp)
  · exact List.all_eq_true.1 writes_16 (8, true) (by simp)
  · exact List.all_eq_true.1 writes_14 (9, false) (by simp)
  · exact List.all_eq_true.1 writes_16 (9, true) (by simp)
  · exact List.all_eq_true.1 writes_14 (10, false) (by simp)
  · exact List.all_eq_true.1 writes_16 (10, true) (by simp)
  · exact List.all_eq_true.1 writes_14 (11, false) (by simp)
  · exact List.all_eq_true.1 writes_16 (11, true) (by simp)
  · exact List.all_eq_true.1 writes_14 (12, false) (by simp)
  · exact List.all_eq_true.1 writes_16 (12, true) (by simp)
  · exact List.all_eq_true.1 writes_15 (13, false) (by simp)
  · exact List.all_eq_true.1 writes_16 (13, true) (by simp)
  · exact List.all_eq_true.1 writes_15 (14, false) (by simp)
  · exact List.all_eq_true.1 writes_16 (14, true) (by simp)
  · exact List.all_eq_true.1 writes_15 (15, false) (by simp)
  · exact List.all_eq_true.1 writes_16 (15, true) (by simp)
theorem all_5 {W : World} (hs : SR (env0 5) H0 5 W) {n m : Nat} (hn : n < 256) (hm : m < 256) (b : Bool) (hk : n % 15 = 5) : Ran W n m b := by
  refine ran hs hn hm b (top_w 5 1698 tl_5 some_5 tell_5) ?_
  rw [hk]
  have hlt : m % 16 < 16 := Nat.mod_lt _ (by omega)
  generalize m % 16 = s at hlt
  rcases (by omega : s = 0 ∨ s = 1 ∨ s = 2 ∨ s = 3 ∨ s = 4 ∨ s = 5 ∨ s = 6 ∨ s = 7 ∨ s = 8 ∨ s = 9 ∨ s = 10 ∨ s = 11 ∨ s = 12 ∨ s = 13 ∨ s = 14 ∨ s = 15) with rfl | rfl | rfl | rfl | rfl | rfl | rfl | rfl | rfl | rfl | rfl | rfl | rfl | rfl | rfl | rfl <;> cases b
  · exact List.all_eq_true.1 writes_17 (0, false) (by simp)
  · exact List.all_eq_true.1 writes_19 (0, true) (by simp)
  · exact List.all_eq_true.1 writes_17 (1, false) (by simp)
  · exact List.all_eq_true.1 writes_19 (1, true) (by simp)
  · exact List.all_eq_true.1 writes_17 (2, false) (by simp)
  · exact List.all_eq_true.1 writes_20 (2, true) (by simp)
  · exact List.all_eq_true.1 writes_17 (3, false) (by simp)
  · exact List.all_eq_true.1 writes_20 (3, true) (by simp)
  · exact List.all_eq_true.1 writes_18 (4, false) (by simp)
  · exact List.all_eq_true.1 writes_20 (4, true) (by simp)
  · exact List.all_eq_true.1 writes_18 (5, false) (by simp)
  · exact List.all_eq_true.1 writes_20 (5, true) (by simp)
  · exact List.all_eq_true.1 writes_18 (6, false) (by simp)
  · exact List.all_eq_true.1 writes_20 (6, true) (by simp)
  · exact List.all_eq_true.1 writes_18 (7, false) (by simp)
  · exact List.all_eq_true.1 writes_20 (7, true) (by simp)
  · exact List.all_eq_true.1 writes_18 (8, false) (by simp)
  · exact List.all_eq_true.1 writes_20 (8, true) (by simp)
  · exact List.all_eq_true.1 writes_18 (9, false) (by simp)
  · exact List.all_eq_true.1 writes_20 (9, true) (by simp)
  · exact List.all_eq_true.1 writes_18 (10, false) (by simp)
  · exact List.all_eq_true.1 writes_21 (10, true) (by simp)
  · exact List.all_eq_true.1 writes_19 (11, false) (by simp)
  · exact List.all_eq_true.1 writes_21 (11, true) (by simp)
  · exact List.all_eq_true.1 writes_19 (12, false) (by simp)
  · exact List.all_eq_true.1 writes_21 (12, true) (by simp)
  · exact List.all_eq_true.1 writes_19 (13, false) (by simp)
  · exact List.all_eq_true.1 writes_21 (13, true) (by simp)
  · exact List.all_eq_true.1 writes_19 (14, false) (by simp)
  · exact List.all_eq_true.1 writes_21 (14, true) (by simp)
  · exact List.all_eq_true.1 writes_19 (15, false) (by simp)
  · exact List.all_eq_true.1 writes_21 (15, true) (by simp)
theorem all_6 {W : World} (hs : SR (env0 5) H0 5 W) {n m : Nat} (hn : n < 256) (hm : m < 256) (b : Bool) (hk : n % 15 = 6) : Ran W n m b := by
  refine ran hs hn hm b (top_w 6 1976 tl_6 some_6 tell_6) ?_
  rw [hk]
  have hlt : m % 16 < 16 := Nat.mod_lt _ (by omega)
  generalize m % 16 = s at hlt
  rcases (by omega : s = 0 ∨ s = 1 ∨ s = 2 ∨ s = 3 ∨ s = 4 ∨ s = 5 ∨ s = 6 ∨ s = 7 ∨ s = 8 ∨ s = 9 ∨ s = 10 ∨ s = 11 ∨ s = 12 ∨ s = 13 ∨ s = 14 ∨ s = 15) with rfl | rfl | rfl | rfl | rfl | rfl | rfl | rfl | rfl | rfl | rfl | rfl | rfl | rfl | rfl | rfl <;> cases b
  · exact List.all_eq_true.1 writes_22 (0, false) (by simp)
  · exact List.all_eq_true.1 writes_25 (0, true) (by simp)
  · exact List.all_eq_true.1 writes_22 (1, false) (by simp)
  · exact List.all_eq_true.1 writes_25 (1, true) (by simp)
  · exact List.all_eq_true.1 writes_22 (2, false) (by simp)
  · exact List.all_eq_true.1 writes_25 (2, true) (by simp)
  · exact List.all_eq_true.1 writes_23 (3, false) (by simp)
  · exact List.all_eq_true.1 writes_25 (3, true) (by simp)
  · exact List.all_eq_true.1 writes_23 (4, false) (by simp)
  · exact List.all_eq_true.1 writes_25 (4, true) (by simp)
  · exact List.all_eq_true.1 writes_23 (5, false) (by simp)
  · exact List.all_eq_true.1 writes_26 (5, true) (by simp)
  · exact List.all_eq_true.1 writes_23 (6, false) (by simp)
  · exact List.all_eq_true.1 writes_26 (6, true) (by simp)
  · exact List.all_eq_true.1 writes_23 (7, false) (by simp)
  · exact List.all_eq_true.1 writes_26 (7, true) (by simp)
  · exact List.all_eq_true.1 writes_24 (8, false) (by simp)
  · exact List.all_eq_true.1 writes_26 (8, true) (by simp)
  · exact List.all_eq_true.1 writes_24 (9, false) (by simp)
  · exact List.all_eq_true.1 writes_26 (9, true) (by simp)
  · exact List.all_eq_true.1 writes_24 (10, false) (by simp)
  · exact List.all_eq_true.1 writes_26 (10, true) (by simp)
  · exact List.all_eq_true.1 writes_24 (11, false) (by simp)
  · exact List.all_eq_true.1 writes_26 (11, true) (by simp)
  · exact List.all_eq_true.1 writes_24 (12, false) (by simp)
  · exact List.all_eq_true.1 writes_26 (12, true) (by simp)
  · exact List.all_eq_true.1 writes_24 (13, false) (by simp)
  · exact List.all_eq_true.1 writes_27 (13, true) (by simp)
  · exact List.all_eq_true.1 writes_25 (14, false) (by simp)
  · exact List.all_eq_true.1 writes_27 (14, true) (by simp)
  · exact List.all_eq_true.1 writes_25 (15, false) (by simp)
  · exact List.all_eq_true.1 writes_27 (15, true) (by simp)
theorem all_7 {W : World} (hs : SR (env0 5) H0 5 W) {n m : Nat} (hn : n < 256) (hm : m < 256) (b : Bool) (hk : n % 15 = 7) : Ran W n m b := by
  refine ran hs hn hm b (top_w 7 2254 tl_7 some_7 tell_7) ?_
  rw [hk]
  have hlt : m % 16 < 16 := Nat.mod_lt _ (by omega)
  generalize m % 16 = s at hlt
  rcases (by omega : s = 0 ∨ s = 1 ∨ s = 2 ∨ s = 3 ∨ s = 4 ∨ s = 5 ∨ s = 6 ∨ s = 7 ∨ s = 8 ∨ s = 9 ∨ s = 10 ∨ s = 11 ∨ s = 12 ∨ s = 13 ∨ s = 14 ∨ s = 15) with rfl | rfl | rfl | rfl | rfl | rfl | rfl | rfl | rfl | rfl | rfl | rfl | rfl | rfl | rfl | rfl <;> cases b
  · exact List.all_eq_true.1 writes_28 (0, false) (by simp)
  · exact List.all_eq_true.1 writes_32 (0, true) (by simp)
  · exact List.all_eq_true.1 writes_28 (1, false) (by simp)
  · exact List.all_eq_true.1 writes_32 (1, true) (by simp)
  · exact List.all_eq_true.1 writes_29 (2, false) (by simp)
  · exact List.all_eq_true.1 writes_32 (2, true) (by simp)
  · exact List.all_eq_true.1 writes_29 (3, false) (by simp)
  · exact List.all_eq_true.1 writes_32 (3, true) (by simp)
  · exact List.all_eq_true.1 writes_29 (4, false) (by simp)
  · exact List.all_eq_true.1 writes_32 (4, true) (by simp)
  · exact List.all_eq_true.1 writes_30 (5, false) (by simp)
  · exact List.all_eq_true.1 writes_32 (5, true) (by simp)
  · exact List.all_eq_true.1 writes_30 (6, false) (by simp)
  · exact List.all_eq_true.1 writes_33 (6, true) (by simp)
  · exact List.all_eq_true.1 writes_30 (7, false) (by simp)
  · exact List.all_eq_true.1 writes_33 (7, true) (by simp)
  · exact List.all_eq_true.1 writes_30 (8, false) (by simp)
  · exact List.all_eq_true.1 writes_33 (8, true) (by simp)
  · exact List.all_eq_true.1 writes_30 (9, false) (by simp)
  · exact List.all_eq_true.1 writes_33 (9, true) (by simp)
  · exact List.all_eq_true.1 writes_31 (10, false) (by simp)
  · exact List.all_eq_true.1 writes_33 (10, true) (by simp)
  · exact List.all_eq_true.1 writes_31 (11, false) (by simp)
  · exact List.all_eq_true.1 writes_33 (11, true) (by simp)
  · exact List.all_eq_true.1 writes_31 (12, false) (by simp)
  · exact List.all_eq_true.1 writes_33 (12, true) (by simp)
  · exact List.all_eq_true.1 writes_31 (13, false) (by simp)
  · exact List.all_eq_true.1 writes_34 (13, true) (by simp)
  · exact List.all_eq_true.1 writes_31 (14, false) (by simp)
  · exact List.all_eq_true.1 writes_34 (14, true) (by simp)
  · exact List.all_eq_true.1 writes_31 (15, false) (by simp)
  · exact List.all_eq_true.1 writes_34 (15, true) (by simp)
theorem all_8 {W : World} (hs : SR (env0 5) H0 5 W) {n m : Nat} (hn : n < 256) (hm : m < 256) (b : Bool) (hk : n % 15 = 8) : Ran W n m b := by
  refine ran hs hn hm b (top_w 8 2532 tl_8 some_8 tell_8) ?_
  rw [hk]
  have hlt : m % 16 < 16 := Nat.mod_lt _ (by omega)
  generalize m % 16 = s at hlt
  rcases (by omega : s = 0 ∨ s = 1 ∨ s = 2 ∨ s = 3 ∨ s = 4 ∨ s = 5 ∨ s = 6 ∨ s = 7 ∨ s = 8 ∨ s = 9 ∨ s = 10 ∨ s = 11 ∨ s = 12 ∨ s = 13 ∨ s = 14 ∨ s = 15) with rfl | rfl | rfl | rfl | rfl | rfl | rfl | rfl | rfl | rfl | rfl | rfl | rfl | rfl | rfl | rfl <;> cases b
  · exact List.all_eq_true.1 writes_35 (0, false) (by simp)
  · exact List.all_eq_true.1 writes_39 (0, true) (by simp)
  · exact List.all_eq_true.1 writes_35 (1, false) (by simp)
  · exact List.all_eq_true.1 writes_39 (1, true) (by simp)
  · exact List.all_eq_true.1 writes_36 (2, false) (by simp)
  · exact List.all_eq_true.1 writes_39 (2, true) (by simp)
  · exact List.all_eq_true.1 writes_36 (3, false) (by simp)
  · exact List.all_eq_true.1 writes_40 (3, true) (by simp)
  · exact List.all_eq_true.1 writes_36 (4, false) (by simp)
  · exact List.all_eq_true.1 writes_40 (4, true) (by simp)
  · exact List.all_eq_true.1 writes_37 (5, false) (by simp)
  · exact List.all_eq_true.1 writes_40 (5, true) (by simp)
  · exact List.all_eq_true.1 writes_37 (6, false) (by simp)
  · exact List.all_eq_true.1 writes_40 (6, true) (by simp)
  · exact List.all_eq_true.1 writes_37 (7, false) (by simp)
  · exact List.all_eq_true.1 writes_40 (7, true) (by simp)
  · exact List.all_eq_true.1 writes_37 (8, false) (by simp)
  · exact List.all_eq_true.1 writes_40 (8, true) (by simp)
  · exact List.all_eq_true.1 writes_38 (9, false) (by simp)
  · exact List.all_eq_true.1 writes_41 (9, true) (by simp)
  · exact List.all_eq_true.1 writes_38 (10, false) (by simp)
  · exact List.all_eq_true.1 writes_41 (10, true) (by simp)
  · exact List.all_eq_true.1 writes_38 (11, false) (by simp)
  · exact List.all_eq_true.1 writes_41 (11, true) (by simp)
  · exact List.all_eq_true.1 writes_38 (12, false) (by simp)
  · exact List.all_eq_true.1 writes_41 (12, true) (by simp)
  · exact List.all_eq_true.1 writes_38 (13, false) (by simp)
  · exact List.all_eq_true.1 writes_41 (13, true) (by simp)
  · exact List.all_eq_true.1 writes_39 (14, false) (by simp)
  · exact List.all_eq_true.1 writes_41 (14, true) (by simp)
  · exact List.all_eq_true.1 writes_39 (15, false) (by simp)
  · exact List.all_eq_true.1 writes_42 (15, true) (by simp)
theorem all_9 {W : World} (hs : SR (env0 5) H0 5 W) {n m : Nat} (hn : n < 256) (hm : m < 256) (b : Bool) (hk : n % 15 = 9) : Ran W n m b := by
  refine ran hs hn hm b (top_w 9 2810 tl_9 some_9 tell_9) ?_
  rw [hk]
  have hlt : m % 16 < 16 := Nat.mod_lt _ (by omega)
  generalize m % 16 = s at hlt
  rcases (by omega : s = 0 ∨ s = 1 ∨ s = 2 ∨ s = 3 ∨ s = 4 ∨ s = 5 ∨ s = 6 ∨ s = 7 ∨ s = 8 ∨ s = 9 ∨ s = 10 ∨ s = 11 ∨ s = 12 ∨ s = 13 ∨ s = 14 ∨ s = 15) with rfl | rfl | rfl | rfl | rfl | rfl | rfl | rfl | rfl | rfl | rfl | rfl | rfl | rfl | rfl | rfl <;> cases b
  · exact List.all_eq_true.1 writes_43 (0, false) (by simp)
  · exact List.all_eq_true.1 writes_48 (0, true) (by simp)
  · exact List.all_eq_true.1 writes_43 (1, false) (by simp)
  · exact List.all_eq_true.1 writes_48 (1, true) (by simp)
  · exact List.all_eq_true.1 writes_44 (2, false) (by simp)
  · exact List.all_eq_true.1 writes_48 (2, true) (by simp)
  · exact List.all_eq_true.1 writes_44 (3, false) (by simp)
  · exact List.all_eq_true.1 writes_48 (3, true) (by simp)
  · exact List.all_eq_true.1 writes_45 (4, false) (by simp)
  · exact List.all_eq_true.1 writes_48 (4, true) (by simp)
  · exact List.all_eq_true.1 writes_45 (5, false) (by simp)
  · exact List.all_eq_true.1 writes_49 (5, true) (by simp)
  · exact List.all_eq_true.1 writes_45 (6, false) (by simp)
  · exact List.all_eq_true.1 writes_49 (6, true) (by simp)
  · exact List.all_eq_true.1 writes_46 (7, false) (by simp)
  · exact List.all_eq_true.1 writes_49 (7, true) (by simp)
  · exact List.all_eq_true.1 writes_46 (8, false) (by simp)
  · exact List.all_eq_true.1 writes_49 (8, true) (by simp)
  · exact List.all_eq_true.1 writes_46 (9, false) (by simp)
  · exact List.all_eq_true.1 writes_49 (9, true) (by simp)
  · exact List.all_eq_true.1 writes_46 (10, false) (by simp)
  · exact List.all_eq_true.1 writes_49 (10, true) (by simp)
  · exact List.all_eq_true.1 writes_47 (11, false) (by simp)
  · exact List.all_eq_true.1 writes_50 (11, true) (by simp)
  · exact List.all_eq_true.1 writes_47 (12, false) (by simp)
  · exact List.all_eq_true.1 writes_50 (12, true) (by simp)
  · exact List.all_eq_true.1 writes_47 (13, false) (by simp)
  · exact List.all_eq_true.1 writes_50 (13, true) (by simp)
  · exact List.all_eq_true.1 writes_47 (14, false) (by simp)
  · exact List.all_eq_true.1 writes_50 (14, true) (by simp)
  · exact List.all_eq_true.1 writes_47 (15, false) (by simp)
  · exact List.all_eq_true.1 writes_50 (15, true) (by simp)
theorem all_10 {W : World} (hs : SR (env0 5) H0 5 W) {n m : Nat} (hn : n < 256) (hm : m < 256) (b : Bool) (hk : n % 15 = 10) : Ran W n m b := by
  refine ran hs hn hm b (top_w 10 3091 tl_10 some_10 tell_10) ?_
  rw [hk]
  have hlt : m % 16 < 16 := Nat.mod_lt _ (by omega)
  generalize m % 16 = s at hlt
  rcases (by omega : s = 0 ∨ s = 1 ∨ s = 2 ∨ s = 3 ∨ s = 4 ∨ s = 5 ∨ s = 6 ∨ s = 7 ∨ s = 8 ∨ s = 9 ∨ s = 10 ∨ s = 11 ∨ s = 12 ∨ s = 13 ∨ s = 14 ∨ s = 15) with rfl | rfl | rfl | rfl | rfl | rfl | rfl | rfl | rfl | rfl | rfl | rfl | rfl | rfl | rfl | rfl <;> cases b
  · exact List.all_eq_true.1 writes_51 (0, false) (by simp)
  · exact List.all_eq_true.1 writes_56 (0, true) (by simp)
  · exact List.all_eq_true.1 writes_52 (1, false) (by simp)
  · exact List.all_eq_true.1 writes_57 (1, true) (by simp)
  · exact List.all_eq_true.1 writes_52 (2, false) (by simp)
  · exact List.all_eq_true.1 writes_57 (2, true) (by simp)
  · exact List.all_eq_true.1 writes_53 (3, false) (by simp)
  · exact List.all_eq_true.1 writes_57 (3, true) (by simp)
  · exact List.all_eq_true.1 writes_53 (4, false) (by simp)
  · exact List.all_eq_true.1 writes_57 (4, true) (by simp)
  · exact List.all_eq_true.1 writes_54 (5, false) (by simp)
  · exact List.all_eq_true.1 writes_57 (5, true) (by simp)
  · exact List.all_eq_true.1 writes_54 (6, false) (by simp)
  · exact List.all_eq_true.1 writes_58 (6, true) (by simp)
  · exact List.all_eq_true.1 writes_54 (7, false) (by simp)
  · exact List.all_eq_true.1 writes_58 (7, true) (by simp)
  · exact List.all_eq_true.1 writes_55 (8, false) (by simp)
  · exact List.all_eq_true.1 writes_58 (8, true) (by simp)
  · exact List.all_eq_true.1 writes_55 (9, false) (by simp)
  · exact List.all_eq_true.1 writes_58 (9, true) (by simp)
  · exact List.all_eq_true.1 writes_55 (10, false) (by simp)
  · exact List.all_eq_true.1 writes_58 (10, true) (by simp)
  · exact List.all_eq_true.1 writes_55 (11, false) (by simp)
  · exact List.all_eq_true.1 writes_59 (11, true) (by simp)
  · exact List.all_eq_true.1 writes_56 (12, false) (by simp)
  · exact List.all_eq_true.1 writes_59 (12, true) (by simp)
  · exact List.all_eq_true.1 writes_56 (13, false) (by simp)
  · exact List.all_eq_true.1 writes_59 (13, true) (by simp)
  · exact List.all_eq_true.1 writes_56 (14, false) (by simp)
  · exact List.all_eq_true.1 writes_59 (14, true) (by simp)
  · exact List.all_eq_true.1 writes_56 (15, false) (by simp)
  · exact List.all_eq_true.1 writes_59 (15, true) (by simp)
theorem all_11 {W : World} (hs : SR (env0 5) H0 5 W) {n m : Nat} (hn : n < 256) (hm : m < 256) (b : Bool) (hk : n % 15 = 11) : Ran W n m b := by
  refine ran hs hn hm b (top_w 11 3369 tl_11 some_11 tell_11) ?_
  rw [hk]
  have hlt : m % 16 < 16 := Nat.mod_lt _ (by omega)
  generalize m % 16 = s at hlt
  rcases (by omega : s = 0 ∨ s = 1 ∨ s = 2 ∨ s = 3 ∨ s = 4 ∨ s = 5 ∨ s = 6 ∨ s = 7 ∨ s = 8 ∨ s = 9 ∨ s = 10 ∨ s = 11 ∨ s = 12 ∨ s = 13 ∨ s = 14 ∨ s = 15) with rfl | rfl | rfl | rfl | rfl | rfl | rfl | rfl | rfl | rfl | rfl | rfl | rfl | rfl | rfl | rfl <;> cases b
  · exact List.all_eq_true.1 writes_60 (0, false) (by simp)
  · exact List.all_eq_true.1 writes_67 (0, true) (by simp)
  · exact List.all_eq_true.1 writes_61 (1, false) (by simp)
  · exact List.all_eq_true.1 writes_67 (1, true) (by simp)
  · exact List.all_eq_true.1 writes_62 (2, false) (by simp)
  · exact List.all_eq_true.1 writes_67 (2, true) (by simp)
  · exact List.all_eq_true.1 writes_62 (3, false) (by simp)
  · exact List.all_eq_true.1 writes_68 (3, true) (by simp)
  · exact List.all_eq_true.1 writes_63 (4, false) (by simp)
  · exact List.all_eq_true.1 writes_68 (4, true) (by simp)
  · exact List.all_eq_true.1 writes_63 (5, false) (by simp)
  · exact List.all_eq_true.1 writes_68 (5, true) (by simp)
  · exact List.all_eq_true.1 writes_64 (6, false) (by simp)
  · exact List.all_eq_true.1 writes_68 (6, true) (by simp)
  · exact List.all_eq_true.1 writes_64 (7, false) (by simp)
  · exact List.all_eq_true.1 writes_69 (7, true) (by simp)
  · exact List.all_eq_true.1 writes_65 (8, false) (by simp)
  · exact List.all_eq_true.1 writes_69 (8, true) (by simp)
  · exact List.all_eq_true.1 writes_65 (9, false) (by simp)
  · exact List.all_eq_true.1 writes_69 (9, true) (by simp)
  · exact List.all_eq_true.1 writes_65 (10, false) (by simp)
  · exact List.all_eq_true.1 writes_69 (10, true) (by simp)
  · exact List.all_eq_true.1 writes_66 (11, false) (by simp)
  · exact List.all_eq_true.1 writes_69 (11, true) (by simp)
  · exact List.all_eq_true.1 writes_66 (12, false) (by simp)
  · exact List.all_eq_true.1 writes_70 (12, true) (by simp)
  · exact List.all_eq_true.1 writes_66 (13, false) (by simp)
  · exact List.all_eq_true.1 writes_70 (13, true) (by simp)
  · exact List.all_eq_true.1 writes_66 (14, false) (by simp)
  · exact List.all_eq_true.1 writes_70 (14, true) (by simp)
  · exact List.all_eq_true.1 writes_67 (15, false) (by simp)
  · exact List.all_eq_true.1 writes_70 (15, true) (by simp)
theorem all_12 {W : World} (hs : SR (env0 5) H0 5 W) {n m : Nat} (hn : n < 256) (hm : m < 256) (b : Bool) (hk : n % 15 = 12) : Ran W n m b := by
  refine ran hs hn hm b (top_w 12 3647 tl_12 some_12 tell_12) ?_
  rw [hk]
  have hlt : m % 16 < 16 := Nat.mod_lt _ (by omega)
  generalize m % 16 = s at hlt
  rcases (by omega : s = 0 ∨ s = 1 ∨ s = 2 ∨ s = 3 ∨ s = 4 ∨ s = 5 ∨ s = 6 ∨ s = 7 ∨ s = 8 ∨ s = 9 ∨ s = 10 ∨ s = 11 ∨ s = 12 ∨ s = 13 ∨ s = 14 ∨ s = 15) with rfl | rfl | rfl | rfl | rfl | rfl | rfl | rfl | rfl | rfl | rfl | rfl | rfl | rfl | rfl | rfl <;> cases b
  · exact List.all_eq_true.1 writes_71 (0, false) (by simp)
  · exact List.all_eq_true.1 writes_79 (0, true) (by simp)
  · exact List.all_eq_true.1 writes_72 (1, false) (by simp)
  · exact List.all_eq_true.1 writes_79 (1, true) (by simp)
  · exact List.all_eq_true.1 writes_73 (2, false) (by simp)
  · exact List.all_eq_true.1 writes_79 (2, true) (by simp)
  · exact List.all_eq_true.1 writes_74 (3, false) (by simp)
  · exact List.all_eq_true.1 writes_79 (3, true) (by simp)
  · exact List.all_eq_true.1 writes_74 (4, false) (by simp)
  · exact List.all_eq_true.1 writes_80 (4, true) (by simp)
  · exact List.all_eq_true.1 writes_75 (5, false) (by simp)
  · exact List.all_eq_true.1 writes_80 (5, true) (by simp)
  · exact List.all_eq_true.1 writes_75 (6, false) (by simp)
  · exact List.all_eq_true.1 writes_80 (6, true) (by simp)
  · exact List.all_eq_true.1 writes_76 (7, false) (by simp)
  · exact List.all_eq_true.1 writes_80 (7, true) (by simp)
  · exact List.all_eq_true.1 writes_76 (8, false) (by simp)
  · exact List.all_eq_true.1 writes_81 (8, true) (by simp)
  · exact List.all_eq_true.1 writes_77 (9, false) (by simp)
  · exact List.all_eq_true.1 writes_81 (9, true) (by simp)
  · exact List.all_eq_true.1 writes_77 (10, false) (by simp)
  · exact List.all_eq_true.1 writes_81 (10, true) (by simp)
  · exact List.all_eq_true.1 writes_77 (11, false) (by simp)
  · exact List.all_eq_true.1 writes_81 (11, true) (by simp)
  · exact List.all_eq_true.1 writes_78 (12, false) (by simp)
  · exact List.all_eq_true.1 writes_82 (12, true) (by simp)
  · exact List.all_eq_true.1 writes_78 (13, false) (by simp)
  · exact List.all_eq_true.1 writes_82 (13, true) (by simp)
  · exact List.all_eq_true.1 writes_78 (14, false) (by simp)
  · exact List.all_eq_true.1 writes_82 (14, true) (by simp)
  · exact List.all_eq_true.1 writes_78 (15, false) (by simp)
  · exact List.all_eq_true.1 writes_82 (15, true) (by simp)
theorem all_13 {W : World} (hs : SR (env0 5) H0 5 W) {n m : Nat} (hn : n < 256) (hm : m < 256) (b : Bool) (hk : n % 15 = 13) : Ran W n m b := by
  refine ran hs hn hm b (top_w 13 3925 tl_13 some_13 tell_13) ?_
  rw [hk]
  have hlt : m % 16 < 16 := Nat.mod_lt _ (by omega)
  generalize m % 16 = s at hlt
  rcases (by omega : s = 0 ∨ s = 1 ∨ s = 2 ∨ s = 3 ∨ s = 4 ∨ s = 5 ∨ s = 6 ∨ s = 7 ∨ s = 8 ∨ s = 9 ∨ s = 10 ∨ s = 11 ∨ s = 12 ∨ s = 13 ∨ s = 14 ∨ s = 15) with rfl | rfl | rfl | rfl | rfl | rfl | rfl | rfl | rfl | rfl | rfl | rfl | rfl | rfl | rfl | rfl <;> cases b
  · exact List.all_eq_true.1 writes_83 (0, false) (by simp)
  · exact List.all_eq_true.1 writes_92 (0, true) (by simp)
  · exact List.all_eq_true.1 writes_84 (1, false) (by simp)
  · exact List.all_eq_true.1 writes_92 (1, true) (by simp)
  · exact List.all_eq_true.1 writes_85 (2, false) (by simp)
  · exact List.all_eq_true.1 writes_93 (2, true) (by simp)
  · exact List.all_eq_true.1 writes_86 (3, false) (by simp)
  · exact List.all_eq_true.1 writes_93 (3, true) (by simp)
  · exact List.all_eq_true.1 writes_87 (4, false) (by simp)
  · exact List.all_eq_true.1 writes_93 (4, true) (by simp)
  · exact List.all_eq_true.1 writes_88 (5, false) (by simp)
  · exact List.all_eq_true.1 writes_93 (5, true) (by simp)
  · exact List.all_eq_true.1 writes_88 (6, false) (by simp)
  · exact List.all_eq_true.1 writes_94 (6, true) (by simp)
  · exact List.all_eq_true.1 writes_89 (7, false) (by simp)
  · exact List.all_eq_true.1 writes_94 (7, true) (by simp)
  · exact List.all_eq_true.1 writes_89 (8, false) (by simp)
  · exact List.all_eq_true.1 writes_94 (8, true) (by simp)
  · exact List.all_eq_true.1 writes_90 (9, false) (by simp)
  · exact List.all_eq_true.1 writes_94 (9, true) (by simp)
  · exact List.all_eq_true.1 writes_90 (10, false) (by simp)
  · exact List.all_eq_true.1 writes_95 (10, true) (by simp)
  · exact List.all_eq_true.1 writes_91 (11, false) (by simp)
  · exact List.all_eq_true.1 writes_95 (11, true) (by simp)
  · exact List.all_eq_true.1 writes_91 (12, false) (by simp)
  · exact List.all_eq_true.1 writes_95 (12, true) (by simp)
  · exact List.all_eq_true.1 writes_91 (13, false) (by simp)
  · exact List.all_eq_true.1 writes_95 (13, true) (by simp)
  · exact List.all_eq_true.1 writes_92 (14, false) (by simp)
  · exact List.all_eq_true.1 writes_96 (14, true) (by simp)
  · exact List.all_eq_true.1 writes_92 (15, false) (by simp)
  · exact List.all_eq_true.1 writes_96 (15, true) (by simp)
theorem all_14 {W : World} (hs : SR (env0 5) H0 5 W) {n m : Nat} (hn : n < 256) (hm : m < 256) (b : Bool) (hk : n % 15 = 14) : Ran W n m b := by
  refine ran hs hn hm b (top_w 14 4203 tl_14 some_14 tell_14) ?_
  rw [hk]
  have hlt : m % 16 < 16 := Nat.mod_lt _ (by omega)
  generalize m % 16 = s at hlt
  rcases (by omega : s = 0 ∨ s = 1 ∨ s = 2 ∨ s = 3 ∨ s = 4 ∨ s = 5 ∨ s = 6 ∨ s = 7 ∨ s = 8 ∨ s = 9 ∨ s = 10 ∨ s = 11 ∨ s = 12 ∨ s = 13 ∨ s = 14 ∨ s = 15) with rfl | rfl | rfl | rfl | rfl | rfl | rfl | rfl | rfl | rfl | rfl | rfl | rfl | rfl | rfl | rfl <;> cases b
  · exact List.all_eq_true.1 writes_97 (0, false) (by simp)
  · exact List.all_eq_true.1 writes_107 (0, true) (by simp)
  · exact List.all_eq_true.1 writes_98 (1, false) (by simp)
  · exact List.all_eq_true.1 writes_107 (1, true) (by simp)
  · exact List.all_eq_true.1 writes_99 (2, false) (by simp)
  · exact List.all_eq_true.1 writes_108 (2, true) (by simp)
  · exact List.all_eq_true.1 writes_100 (3, false) (by simp)
  · exact List.all_eq_true.1 writes_108 (3, true) (by simp)
  · exact List.all_eq_true.1 writes_101 (4, false) (by simp)
  · exact List.all_eq_true.1 writes_108 (4, true) (by simp)
  · exact List.all_eq_true.1 writes_102 (5, false) (by simp)
  · exact List.all_eq_true.1 writes_109 (5, true) (by simp)
  · exact List.all_eq_true.1 writes_103 (6, false) (by simp)
  · exact List.all_eq_true.1 writes_109 (6, true) (by simp)
  · exact List.all_eq_true.1 writes_103 (7, false) (by simp)
  · exact List.all_eq_true.1 writes_109 (7, true) (by simp)
  · exact List.all_eq_true.1 writes_104 (8, false) (by simp)
  · exact List.all_eq_true.1 writes_109 (8, true) (by simp)
  · exact List.all_eq_true.1 writes_104 (9, false) (by simp)
  · exact List.all_eq_true.1 writes_110 (9, true) (by simp)
  · exact List.all_eq_true.1 writes_105 (10, false) (by simp)
  · exact List.all_eq_true.1 writes_110 (10, true) (by simp)
  · exact List.all_eq_true.1 writes_105 (11, false) (by simp)
  · exact List.all_eq_true.1 writes_110 (11, true) (by simp)
  · exact List.all_eq_true.1 writes_106 (12, false) (by simp)
  · exact List.all_eq_true.1 writes_110 (12, true) (by simp)
  · exact List.all_eq_true.1 writes_106 (13, false) (by simp)
  · exact List.all_eq_true.1 writes_111 (13, true) (by simp)
  · exact List.all_eq_true.1 writes_106 (14, false) (by simp)
  · exact List.all_eq_true.1 writes_111 (14, true) (by simp)
  · exact List.all_eq_true.1 writes_107 (15, false) (by simp)
  · exact List.all_eq_true.1 writes_111 (15, true) (by simp)
theorem walk {W : World} (hs : SR (env0 5) H0 5 W) (a : Int) (wa : (Lit.int .u8 a).wf = true) (b : Int) (wb : (Lit.int .u8 b).wf = true) (r : Bool) :
    Calls Tryz.prog 5 #[.int .u8 a, .int .u8 b, .bool r] W fun e w' => e = .returned (.bool true) ∧ Below W.heap.size W w' := by
  obtain ⟨n, rfl, hn⟩ := nat_u8 wa
  obtain ⟨m, rfl, hm⟩ := nat_u8 wb
  have hlt : n % 15 < 15 := Nat.mod_lt _ (by omega)
  rcases (by omega : n % 15 = 0 ∨ n % 15 = 1 ∨ n % 15 = 2 ∨ n % 15 = 3 ∨ n % 15 = 4 ∨ n % 15 = 5 ∨ n % 15 = 6 ∨ n % 15 = 7 ∨ n % 15 = 8 ∨ n % 15 = 9 ∨ n % 15 = 10 ∨ n % 15 = 11 ∨ n % 15 = 12 ∨ n % 15 = 13 ∨ n % 15 = 14) with h | h | h | h | h | h | h | h | h | h | h | h | h | h | h
  · exact all_0 hs hn hm r h
  · exact all_1 hs hn hm r h
  · exact all_2 hs hn hm r h
  · exact all_3 hs hn hm r h
  · exact all_4 hs hn hm r h
  · exact all_5 hs hn hm r h
  · exact all_6 hs hn hm r h
  · exact all_7 hs hn hm r h
  · exact all_8 hs hn hm r h
  · exact all_9 hs hn hm r h
  · exact all_10 hs hn hm r h
  · exact all_11 hs hn hm r h
  · exact all_12 hs hn hm r h
  · exact all_13 hs hn hm r h
  · exact all_14 hs hn hm r h

end Go.Proofs.YtekecchdjkkoeaaGreatDoor.execWrites
