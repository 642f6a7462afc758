/- What the desk's functions do, as DeskControls meets them. No condition. -/
import Derived.Test.YtekecchdjkkoeaaGreatDoorSeatBase
import Derived.Test.YtekecchdjkkoeaaGreatDoorEv5
import Derived.Test.YtekecchdjkkoeaaGreatDoorSeatC0
import Derived.Test.YtekecchdjkkoeaaGreatDoorSeatC1
import Derived.Test.YtekecchdjkkoeaaGreatDoorSeatC2
import Derived.Test.YtekecchdjkkoeaaGreatDoorSeatC3
import Derived.Test.YtekecchdjkkoeaaGreatDoorSeatC4
import Derived.Test.YtekecchdjkkoeaaGreatDoorSeatC5
import Derived.Test.YtekecchdjkkoeaaGreatDoorSeatC6
set_option linter.unusedVariables false
set_option linter.unusedSimpArgs false
namespace Go.Proofs.YtekecchdjkkoeaaGreatDoor
open Go.Ev Go.RowKit
set_option maxRecDepth 100000
theorem fast5 : CallOK Tryz.prog 5 (fun f args H nx => fcall Tryz.prog 5 49 100000 1000 f args H nx fin) := fast_ok (P := Tryz.prog) (G := 5) (rf := 49) (fun n => run_ok n) 100000 1000
theorem hpT_of {tl : List (Nat × TO)} (h : isSomeH (hpT tl) = true) : hpT tl = some (heapT tl) := by
  unfold heapT
  cases e : hpT tl with
  | none => rw [e] at h; cases h
  | some H => rfl
theorem at_start {w : World} {base : Nat} (hs : SR (env0 5) H0 5 w) (hb : base ≤ w.heap.size) : At 5 base H0 5 (env0 5) w :=
  ⟨env0_GL 5, hs, fun id L h1 h2 => absurd (env0_lt h2).1 (by omega), hb⟩
theorem awake_any {w : World} (hs : SR (env0 5) H0 5 w) : Calls Tryz.prog 14 #[] w fun e w' => e = .returned (.bool true) ∧ SR (env0 5) H0 5 w' ∧ Below w.heap.size w w' := by
  refine (calls_true (top_seat 100000) Tryz.func14 rfl (by decide +kernel) awake21 hs (xs := #[]) rfl).mono ?_
  rintro e w' ⟨h1, h2, h3, h4, h5, h6⟩
  exact ⟨h1, SR_quiet hs h2 h3, ⟨h4, h5, h6, h2, h3⟩⟩
theorem tup2 {env : Env} {a b : AV} {c : Value} (h : VR env (.tup (.cons a (.cons b .nil))) c) : ∃ x y, c = .tuple #[x, y] ∧ VR env a x ∧ VR env b y := by
  obtain ⟨v, rfl, x, xs, e1, h1, y, ys, e2, h2, e3⟩ := h
  subst e3; subst e2
  refine ⟨x, y, ?_, h1, h2⟩
  rw [← Array.toList_inj.1 (show v.toList = (#[x, y] : Array Value).toList from e1)]
theorem agg4 {env : Env} {a b c d : AV} {v : Value} (h : VR env (.agg (.cons a (.cons b (.cons c (.cons d .nil))))) v) : ∃ x y z t, v = .agg #[x, y, z, t] ∧ VR env a x ∧ VR env b y ∧ VR env c z ∧ VR env d t := by
  obtain ⟨v, rfl, x, xs, e1, h1, y, ys, e2, h2, z, zs, e3, h3, t, ts, e4, h4, e5⟩ := h
  subst e5; subst e4; subst e3; subst e2
  refine ⟨x, y, z, t, ?_, h1, h2, h3, h4⟩
  rw [← Array.toList_inj.1 (show v.toList = (#[x, y, z, t] : Array Value).toList from e1)]
theorem cell' {env : Env} {v : Value} (h : VR env .unk v) : v.oneCell' = true := by
  have h : v.oneCell = true := h
  cases v <;> first | rfl | exact h
def StrIs (s : List Nat) (v : Value) : Prop := ∃ b : ByteArray, v = .string b ∧ b.data.toList.map (·.toNat) = s
theorem VL1 {env : Env} {x : AV} {u : Value} (h1 : VR env x u) : VL env (.cons x .nil) [u] := ⟨u, [], rfl, h1, rfl⟩
theorem VL3 {env : Env} {x y z : AV} {u v t : Value} (h1 : VR env x u) (h2 : VR env y v) (h3 : VR env z t) : VL env (.cons x (.cons y (.cons z .nil))) [u, v, t] := ⟨u, [v, t], rfl, h1, v, [t], rfl, h2, t, [], rfl, h3, rfl⟩

theorem new_any {w : World} {base : Nat} (h : At 5 base H0 5 (env0 5) w) :
    Calls Tryz.prog 15 #[.int .i64 10] w fun e w' => ∃ env dv, e = .returned (.tuple #[dv, .int .i64 0]) ∧ VR env (.ptr 13 0) dv ∧ At 5 base (heapT newT) 14 env w' ∧ Below base w w' := by
  refine (tellR_ok fast5 Tryz.func15 rfl (by decide +kernel) (hpT_of new_some) (by decide +kernel) (by decide +kernel) new_run h (VL1 (show VR (env0 5) (.int .i64 (.ofNat 10)) (.int .i64 10) from rfl))).mono ?_
  rintro e w' ⟨c, env, rfl, hv, hat, _, hz, hf, ho, ht, hp⟩
  obtain ⟨x, y, rfl, h1, h2⟩ := tup2 hv
  simp only [VR] at h2
  subst h2
  exact ⟨env, x, rfl, h1, hat, ⟨ho, ht, hp, hz, hf⟩⟩
theorem open_any {w : World} {base : Nat} {env : Env} {dv : Value} (h : At 5 base (heapT newT) 14 env w) (hd : VR env (.ptr 13 0) dv) :
    Calls Tryz.prog 16 #[dv] w fun e w' => ∃ env', e = .returned (.tuple #[.int .i64 0, .int .i64 0]) ∧ VR env' (.ptr 13 0) dv ∧ At 5 base (heapT openT) 15 env' w' ∧ Below base w w' := by
  refine (tellR_ok fast5 Tryz.func16 rfl (by decide +kernel) (hpT_of open_some) (by decide +kernel) (by decide +kernel) open_run h (VL1 hd)).mono ?_
  rintro e w' ⟨c, env', rfl, hv, hat, hk, hz, hf, ho, ht, hp⟩
  obtain ⟨x, y, rfl, h1, h2⟩ := tup2 hv
  simp only [VR] at h1 h2
  subst h1; subst h2
  exact ⟨env', rfl, hk 13 0 dv rfl (by omega) hd, hat, ⟨ho, ht, hp, hz, hf⟩⟩
/-- a desk whose c transactions have begun, its session's state st -/
def Desk (base c st : Nat) (dv : Value) (w : World) : Prop := ∃ env, VR env (.ptr 13 0) dv ∧ At 5 base (heapT (stT c st)) 137 env w
theorem Desk.only {base c st : Nat} {dv : Value} {w w' : World} (h : Desk base c st dv w) (hsz : w.heap.size ≤ w'.heap.size) (hf : ∀ b, b < w.heap.size → w'.heap[b]? = w.heap[b]?) : Desk base c st dv w' := by
  obtain ⟨env, h1, h2⟩ := h
  exact ⟨env, h1, h2.only hsz (fun id L hL => hf L.b (h2.s.bnd id L hL).1)⟩
theorem Desk.kept {base c st : Nat} {dv : Value} {w w' : World} (h : Desk base c st dv w) (hb : Below w.heap.size w w') : Desk base c st dv w' := h.only hb.size hb.block
theorem some_of {c st : Nat} (h : ctlB c st = true) : isSomeH (hpT (stT c st)) = true := by
  unfold ctlB at h; simp only [Bool.and_eq_true] at h; exact h.1
theorem make_any {w : World} {base : Nat} {env : Env} {dv sv : Value} (hc : ctlB 1 0 = true) (h : At 5 base (heapT openT) 15 env w) (hd : VR env (.ptr 13 0) dv) (hs : StrIs [67, 82, 69, 65, 84, 69, 32, 84, 65, 66, 76, 69, 32, 116, 32, 40, 97, 32, 73, 78, 84, 41] sv) :
    Calls Tryz.prog 17 #[dv, .int .i64 0, sv] w fun e w' => ∃ x y z t, e = .returned (.tuple #[.agg #[x, y, z, t], .int .i64 0]) ∧ Desk base 1 0 dv w' ∧ Below base w w' := by
  refine (tellR_ok fast5 Tryz.func17 rfl (by decide +kernel) (hpT_of (some_of hc)) (by decide +kernel) (by decide +kernel) make_run h (VL3 hd (show VR env (.int .i64 (.ofNat 0)) (.int .i64 0) from rfl) (show VR env (.str _) sv from hs))).mono ?_
  rintro e w' ⟨c, env', rfl, hv, hat, hk, hz, hf, ho, ht, hp⟩
  obtain ⟨x, y, rfl, h1, h2⟩ := tup2 hv
  obtain ⟨a1, a2, a3, a4, rfl, _⟩ := agg4 h1
  simp only [VR] at h2
  subst h2
  exact ⟨a1, a2, a3, a4, rfl, ⟨env', hk 13 0 dv rfl (by omega) hd, hat⟩, ⟨ho, ht, hp, hz, hf⟩⟩
theorem rho_ge (c st k : Nat) : ((rho c st k).all fun p => Nat.ble 5 p.2) = true := by
  unfold rho
  cases Nat.beq st 0 && Nat.beq (Nat.mod c 4) 0 <;> cases Nat.beq k 0 <;> cases Nat.beq k 3 <;> cases Nat.beq k 4 <;> rfl
theorem rho_low (c st k : Nat) : ((List.range 5).all fun g => Nat.beq (lookN (rho c st k) g) g && Nat.blt g 137) = true := by
  unfold rho
  cases Nat.beq st 0 && Nat.beq (Nat.mod c 4) 0 <;> cases Nat.beq k 0 <;> cases Nat.beq k 3 <;> cases Nat.beq k 4 <;> decide +kernel
theorem rho_D (c st k : Nat) : lookN (rho c st k) 13 = 13 := by
  unfold rho
  cases Nat.beq st 0 && Nat.beq (Nat.mod c 4) 0 <;> cases Nat.beq k 0 <;> cases Nat.beq k 3 <;> cases Nat.beq k 4 <;> rfl
theorem one_any {w : World} {base c st k : Nat} {s : List Nat} {dv sv : Value} (hr : ctl1 c st k s = true) (hn : isSomeH (hpT (stT (nextC c st k) (nextS st k))) = true) (h : Desk base c st dv w) (hs : StrIs s sv) :
    Calls Tryz.prog 17 #[dv, .int .i64 0, sv] w fun e w' => ∃ y z t, e = .returned (.tuple #[.agg #[.int .i64 (codeT st k), y, z, t], .int .i64 0]) ∧ (y.oneCell' = true ∧ z.oneCell' = true ∧ t.oneCell' = true) ∧ Desk base (nextC c st k) (nextS st k) dv w' ∧ Below base w w' := by
  obtain ⟨env, hd, hat⟩ := h
  refine (tellR_ok fast5 Tryz.func17 rfl (by decide +kernel) (hpT_of hn) (rho_low c st k) (rho_ge c st k) hr hat (VL3 hd (show VR env (.int .i64 (.ofNat 0)) (.int .i64 0) from rfl) (show VR env (.str _) sv from hs))).mono ?_
  rintro e w' ⟨c', env', rfl, hv, hat', hk, hz, hf, ho, ht, hp⟩
  obtain ⟨x, y, rfl, h1, h2⟩ := tup2 hv
  obtain ⟨a1, a2, a3, a4, rfl, h3, h4, h5, h6⟩ := agg4 h1
  simp only [VR] at h2 h3
  subst h2; subst h3
  exact ⟨a2, a3, a4, rfl, ⟨cell' h4, cell' h5, cell' h6⟩, ⟨env', hk 13 0 dv (rho_D c st k) (by omega) hd, hat'⟩, ⟨ho, ht, hp, hz, hf⟩⟩
theorem state_of {w : World} {base c st : Nat} {dv : Value} (hs : ctlS c st = true) (hm : isSomeH (hpT (stT c st)) = true) (h : Desk base c st dv w) :
    Calls Tryz.prog 18 #[dv, .int .i64 0] w fun e w' => e = .returned (.int .i64 st) ∧ Desk base c st dv w' ∧ Below base w w' := by
  obtain ⟨env, hd, hat⟩ := h
  refine (tellR_ok fast5 Tryz.func18 rfl (by decide +kernel) (hpT_of hm) (by decide +kernel) (by decide +kernel) hs hat (VL2 hd (show VR env (.int .i64 (.ofNat 0)) (.int .i64 0) from rfl))).mono ?_
  rintro e w' ⟨c', env', rfl, hv, hat', hk, hz, hf, ho, ht, hp⟩
  simp only [VR] at hv
  subst hv
  exact ⟨rfl, ⟨env', hk 13 0 dv rfl (by omega) hd, hat'⟩, ⟨ho, ht, hp, hz, hf⟩⟩
theorem ltc {Q : Nat → Prop} {n : Nat} (h : Q n) (hs : ∀ m, m < n → Q m) : ∀ m, m < Nat.succ n → Q m := fun m hm => by
  rcases Nat.lt_or_ge m n with e | e
  · exact hs m e
  · have : m = n := by omega
    rw [this]; exact h
def QC (c : Nat) : Prop := 1 ≤ c → ctlB c 0 = true ∧ (2 ≤ c → ctlB c 1 = true ∧ ctlB c 2 = true)
theorem ctl_1_p : ctlB 1 0 = true ∧ ctlB 2 0 = true ∧ ctlB 2 1 = true ∧ ctlB 2 2 = true ∧ ctlB 3 0 = true ∧ ctlB 3 1 = true ∧ ctlB 3 2 = true ∧ ctlB 4 0 = true ∧ ctlB 4 1 = true ∧ ctlB 4 2 = true := by have h := ctl_1; simp only [Bool.and_eq_true] at h; exact h
theorem ctl_2_p : ctlB 5 0 = true ∧ ctlB 5 1 = true ∧ ctlB 5 2 = true ∧ ctlB 6 0 = true ∧ ctlB 6 1 = true ∧ ctlB 6 2 = true ∧ ctlB 7 0 = true ∧ ctlB 7 1 = true ∧ ctlB 7 2 = true ∧ ctlB 8 0 = true := by have h := ctl_2; simp only [Bool.and_eq_true] at h; exact h
theorem ctl_3_p : ctlB 8 1 = true ∧ ctlB 8 2 = true ∧ ctlB 9 0 = true ∧ ctlB 9 1 = true ∧ ctlB 9 2 = true ∧ ctlB 10 0 = true ∧ ctlB 10 1 = true ∧ ctlB 10 2 = true ∧ ctlB 11 0 = true ∧ ctlB 11 1 = true := by have h := ctl_3; simp only [Bool.and_eq_true] at h; exact h
theorem ctl_4_p : ctlB 11 2 = true ∧ ctlB 12 0 = true ∧ ctlB 12 1 = true ∧ ctlB 12 2 = true ∧ ctlB 13 0 = true ∧ ctlB 13 1 = true ∧ ctlB 13 2 = true ∧ ctlB 14 0 = true ∧ ctlB 14 1 = true ∧ ctlB 14 2 = true := by have h := ctl_4; simp only [Bool.and_eq_true] at h; exact h
theorem ctl_5_p : ctlB 15 0 = true ∧ ctlB 15 1 = true ∧ ctlB 15 2 = true ∧ ctlB 16 0 = true ∧ ctlB 16 1 = true ∧ ctlB 16 2 = true ∧ ctlB 17 0 = true ∧ ctlB 17 1 = true ∧ ctlB 17 2 = true ∧ ctlB 18 0 = true := by have h := ctl_5; simp only [Bool.and_eq_true] at h; exact h
theorem ctl_6_p : ctlB 18 1 = true ∧ ctlB 18 2 = true ∧ ctlB 19 0 = true ∧ ctlB 19 1 = true ∧ ctlB 19 2 = true ∧ ctlB 20 0 = true ∧ ctlB 20 1 = true ∧ ctlB 20 2 = true ∧ ctlB 21 0 = true ∧ ctlB 21 1 = true := by have h := ctl_6; simp only [Bool.and_eq_true] at h; exact h
theorem ctl_7_p : ctlB 21 2 = true ∧ ctlB 22 0 = true ∧ ctlB 22 1 = true ∧ ctlB 22 2 = true ∧ ctlB 23 0 = true ∧ ctlB 23 1 = true ∧ ctlB 23 2 = true ∧ ctlB 24 0 = true ∧ ctlB 24 1 = true ∧ ctlB 24 2 = true := by have h := ctl_7; simp only [Bool.and_eq_true] at h; exact h
theorem ctl_8_p : ctlB 25 0 = true ∧ ctlB 25 1 = true ∧ ctlB 25 2 = true ∧ ctlB 26 0 = true ∧ ctlB 26 1 = true ∧ ctlB 26 2 = true ∧ ctlB 27 0 = true ∧ ctlB 27 1 = true ∧ ctlB 27 2 = true ∧ ctlB 28 0 = true := by have h := ctl_8; simp only [Bool.and_eq_true] at h; exact h
theorem ctl_9_p : ctlB 28 1 = true ∧ ctlB 28 2 = true ∧ ctlB 29 0 = true ∧ ctlB 29 1 = true ∧ ctlB 29 2 = true ∧ ctlB 30 0 = true ∧ ctlB 30 1 = true ∧ ctlB 30 2 = true ∧ ctlB 31 0 = true ∧ ctlB 31 1 = true := by have h := ctl_9; simp only [Bool.and_eq_true] at h; exact h
theorem ctl_10_p : ctlB 31 2 = true ∧ ctlB 32 0 = true ∧ ctlB 32 1 = true ∧ ctlB 32 2 = true ∧ ctlB 33 0 = true ∧ ctlB 33 1 = true ∧ ctlB 33 2 = true ∧ ctlB 34 0 = true ∧ ctlB 34 1 = true ∧ ctlB 34 2 = true := by have h := ctl_10; simp only [Bool.and_eq_true] at h; exact h
theorem ctl_11_p : ctlB 35 0 = true ∧ ctlB 35 1 = true ∧ ctlB 35 2 = true ∧ ctlB 36 0 = true ∧ ctlB 36 1 = true ∧ ctlB 36 2 = true ∧ ctlB 37 0 = true ∧ ctlB 37 1 = true ∧ ctlB 37 2 = true ∧ ctlB 38 0 = true := by have h := ctl_11; simp only [Bool.and_eq_true] at h; exact h
theorem ctl_12_p : ctlB 38 1 = true ∧ ctlB 38 2 = true ∧ ctlB 39 0 = true ∧ ctlB 39 1 = true ∧ ctlB 39 2 = true ∧ ctlB 40 0 = true ∧ ctlB 40 1 = true ∧ ctlB 40 2 = true ∧ ctlB 41 0 = true ∧ ctlB 41 1 = true := by have h := ctl_12; simp only [Bool.and_eq_true] at h; exact h
theorem ctl_13_p : ctlB 41 2 = true ∧ ctlB 42 0 = true ∧ ctlB 42 1 = true ∧ ctlB 42 2 = true ∧ ctlB 43 0 = true ∧ ctlB 43 1 = true ∧ ctlB 43 2 = true ∧ ctlB 44 0 = true ∧ ctlB 44 1 = true ∧ ctlB 44 2 = true := by have h := ctl_13; simp only [Bool.and_eq_true] at h; exact h
theorem ctl_14_p : ctlB 45 0 = true ∧ ctlB 45 1 = true ∧ ctlB 45 2 = true ∧ ctlB 46 0 = true ∧ ctlB 46 1 = true ∧ ctlB 46 2 = true ∧ ctlB 47 0 = true ∧ ctlB 47 1 = true ∧ ctlB 47 2 = true ∧ ctlB 48 0 = true := by have h := ctl_14; simp only [Bool.and_eq_true] at h; exact h
theorem ctl_15_p : ctlB 48 1 = true ∧ ctlB 48 2 = true ∧ ctlB 49 0 = true ∧ ctlB 49 1 = true ∧ ctlB 49 2 = true ∧ ctlB 50 0 = true ∧ ctlB 50 1 = true ∧ ctlB 50 2 = true ∧ ctlB 51 0 = true ∧ ctlB 51 1 = true := by have h := ctl_15; simp only [Bool.and_eq_true] at h; exact h
theorem ctl_16_p : ctlB 51 2 = true ∧ ctlB 52 0 = true ∧ ctlB 52 1 = true ∧ ctlB 52 2 = true ∧ ctlB 53 0 = true ∧ ctlB 53 1 = true ∧ ctlB 53 2 = true ∧ ctlB 54 0 = true ∧ ctlB 54 1 = true ∧ ctlB 54 2 = true := by have h := ctl_16; simp only [Bool.and_eq_true] at h; exact h
theorem ctl_17_p : ctlB 55 0 = true ∧ ctlB 55 1 = true ∧ ctlB 55 2 = true ∧ ctlB 56 0 = true ∧ ctlB 56 1 = true ∧ ctlB 56 2 = true ∧ ctlB 57 0 = true ∧ ctlB 57 1 = true ∧ ctlB 57 2 = true ∧ ctlB 58 0 = true := by have h := ctl_17; simp only [Bool.and_eq_true] at h; exact h
theorem ctl_18_p : ctlB 58 1 = true ∧ ctlB 58 2 = true ∧ ctlB 59 0 = true ∧ ctlB 59 1 = true ∧ ctlB 59 2 = true ∧ ctlB 60 0 = true ∧ ctlB 60 1 = true ∧ ctlB 60 2 = true := by have h := ctl_18; simp only [Bool.and_eq_true] at h; exact h
theorem ctl_q : ∀ c, c < 61 → QC c := by
  refine ltc (Q := QC) (n := 60) (fun _ => ⟨(ctl_18_p.2.2.2.2.2.1), fun _ => ⟨(ctl_18_p.2.2.2.2.2.2.1), (ctl_18_p.2.2.2.2.2.2.2)⟩⟩) ?_
  refine ltc (Q := QC) (n := 59) (fun _ => ⟨(ctl_18_p.2.2.1), fun _ => ⟨(ctl_18_p.2.2.2.1), (ctl_18_p.2.2.2.2.1)⟩⟩) ?_
  refine ltc (Q := QC) (n := 58) (fun _ => ⟨(ctl_17_p.2.2.2.2.2.2.2.2.2), fun _ => ⟨(ctl_18_p.1), (ctl_18_p.2.1)⟩⟩) ?_
  refine ltc (Q := QC) (n := 57) (fun _ => ⟨(ctl_17_p.2.2.2.2.2.2.1), fun _ => ⟨(ctl_17_p.2.2.2.2.2.2.2.1), (ctl_17_p.2.2.2.2.2.2.2.2.1)⟩⟩) ?_
  refine ltc (Q := QC) (n := 56) (fun _ => ⟨(ctl_17_p.2.2.2.1), fun _ => ⟨(ctl_17_p.2.2.2.2.1), (ctl_17_p.2.2.2.2.2.1)⟩⟩) ?_
  refine ltc (Q := QC) (n := 55) (fun _ => ⟨(ctl_17_p.1), fun _ => ⟨(ctl_17_p.2.1), (ctl_17_p.2.2.1)⟩⟩) ?_
  refine ltc (Q := QC) (n := 54) (fun _ => ⟨(ctl_16_p.2.2.2.2.2.2.2.1), fun _ => ⟨(ctl_16_p.2.2.2.2.2.2.2.2.1), (ctl_16_p.2.2.2.2.2.2.2.2.2)⟩⟩) ?_
  refine ltc (Q := QC) (n := 53) (fun _ => ⟨(ctl_16_p.2.2.2.2.1), fun _ => ⟨(ctl_16_p.2.2.2.2.2.1), (ctl_16_p.2.2.2.2.2.2.1)⟩⟩) ?_
  refine ltc (Q := QC) (n := 52) (fun _ => ⟨(ctl_16_p.2.1), fun _ => ⟨(ctl_16_p.2.2.1), (ctl_16_p.2.2.2.1)⟩⟩) ?_
  refine ltc (Q := QC) (n := 51) (fun _ => ⟨(ctl_15_p.2.2.2.2.2.2.2.2.1), fun _ => ⟨(ctl_15_p.2.2.2.2.2.2.2.2.2), (ctl_16_p.1)⟩⟩) ?_
  refine ltc (Q := QC) (n := 50) (fun _ => ⟨(ctl_15_p.2.2.2.2.2.1), fun _ => ⟨(ctl_15_p.2.2.2.2.2.2.1), (ctl_15_p.2.2.2.2.2.2.2.1)⟩⟩) ?_
  refine ltc (Q := QC) (n := 49) (fun _ => ⟨(ctl_15_p.2.2.1), fun _ => ⟨(ctl_15_p.2.2.2.1), (ctl_15_p.2.2.2.2.1)⟩⟩) ?_
  refine ltc (Q := QC) (n := 48) (fun _ => ⟨(ctl_14_p.2.2.2.2.2.2.2.2.2), fun _ => ⟨(ctl_15_p.1), (ctl_15_p.2.1)⟩⟩) ?_
  refine ltc (Q := QC) (n := 47) (fun _ => ⟨(ctl_14_p.2.2.2.2.2.2.1), fun _ => ⟨(ctl_14_p.2.2.2.2.2.2.2.1), (ctl_14_p.2.2.2.2.2.2.2.2.1)⟩⟩) ?_
  refine ltc (Q := QC) (n := 46) (fun _ => ⟨(ctl_14_p.2.2.2.1), fun _ => ⟨(ctl_14_p.2.2.2.2.1), (ctl_14_p.2.2.2.2.2.1)⟩⟩) ?_
  refine ltc (Q := QC) (n := 45) (fun _ => ⟨(ctl_14_p.1), fun _ => ⟨(ctl_14_p.2.1), (ctl_14_p.2.2.1)⟩⟩) ?_
  refine ltc (Q := QC) (n := 44) (fun _ => ⟨(ctl_13_p.2.2.2.2.2.2.2.1), fun _ => ⟨(ctl_13_p.2.2.2.2.2.2.2.2.1), (ctl_13_p.2.2.2.2.2.2.2.2.2)⟩⟩) ?_
  refine ltc (Q := QC) (n := 43) (fun _ => ⟨(ctl_13_p.2.2.2.2.1), fun _ => ⟨(ctl_13_p.2.2.2.2.2.1), (ctl_13_p.2.2.2.2.2.2.1)⟩⟩) ?_
  refine ltc (Q := QC) (n := 42) (fun _ => ⟨(ctl_13_p.2.1), fun _ => ⟨(ctl_13_p.2.2.1), (ctl_13_p.2.2.2.1)⟩⟩) ?_
  refine ltc (Q := QC) (n := 41) (fun _ => ⟨(ctl_12_p.2.2.2.2.2.2.2.2.1), fun _ => ⟨(ctl_12_p.2.2.2.2.2.2.2.2.2), (ctl_13_p.1)⟩⟩) ?_
  refine ltc (Q := QC) (n := 40) (fun _ => ⟨(ctl_12_p.2.2.2.2.2.1), fun _ => ⟨(ctl_12_p.2.2.2.2.2.2.1), (ctl_12_p.2.2.2.2.2.2.2.1)⟩⟩) ?_
  refine ltc (Q := QC) (n := 39) (fun _ => ⟨(ctl_12_p.2.2.1), fun _ => ⟨(ctl_12_p.2.2.2.1), (ctl_12_p.2.2.2.2.1)⟩⟩) ?_
  refine ltc (Q := QC) (n := 38) (fun _ => ⟨(ctl_11_p.2.2.2.2.2.2.2.2.2), fun _ => ⟨(ctl_12_p.1), (ctl_12_p.2.1)⟩⟩) ?_
  refine ltc (Q := QC) (n := 37) (fun _ => ⟨(ctl_11_p.2.2.2.2.2.2.1), fun _ => ⟨(ctl_11_p.2.2.2.2.2.2.2.1), (ctl_11_p.2.2.2.2.2.2.2.2.1)⟩⟩) ?_
  refine ltc (Q := QC) (n := 36) (fun _ => ⟨(ctl_11_p.2.2.2.1), fun _ => ⟨(ctl_11_p.2.2.2.2.1), (ctl_11_p.2.2.2.2.2.1)⟩⟩) ?_
  refine ltc (Q := QC) (n := 35) (fun _ => ⟨(ctl_11_p.1), fun _ => ⟨(ctl_11_p.2.1), (ctl_11_p.2.2.1)⟩⟩) ?_
  refine ltc (Q := QC) (n := 34) (fun _ => ⟨(ctl_10_p.2.2.2.2.2.2.2.1), fun _ => ⟨(ctl_10_p.2.2.2.2.2.2.2.2.1), (ctl_10_p.2.2.2.2.2.2.2.2.2)⟩⟩) ?_
  refine ltc (Q := QC) (n := 33) (fun _ => ⟨(ctl_10_p.2.2.2.2.1), fun _ => ⟨(ctl_10_p.2.2.2.2.2.1), (ctl_10_p.2.2.2.2.2.2.1)⟩⟩) ?_
  refine ltc (Q := QC) (n := 32) (fun _ => ⟨(ctl_10_p.2.1), fun _ => ⟨(ctl_10_p.2.2.1), (ctl_10_p.2.2.2.1)⟩⟩) ?_
  refine ltc (Q := QC) (n := 31) (fun _ => ⟨(ctl_9_p.2.2.2.2.2.2.2.2.1), fun _ => ⟨(ctl_9_p.2.2.2.2.2.2.2.2.2), (ctl_10_p.1)⟩⟩) ?_
  refine ltc (Q := QC) (n := 30) (fun _ => ⟨(ctl_9_p.2.2.2.2.2.1), fun _ => ⟨(ctl_9_p.2.2.2.2.2.2.1), (ctl_9_p.2.2.2.2.2.2.2.1)⟩⟩) ?_
  refine ltc (Q := QC) (n := 29) (fun _ => ⟨(ctl_9_p.2.2.1), fun _ => ⟨(ctl_9_p.2.2.2.1), (ctl_9_p.2.2.2.2.1)⟩⟩) ?_
  refine ltc (Q := QC) (n := 28) (fun _ => ⟨(ctl_8_p.2.2.2.2.2.2.2.2.2), fun _ => ⟨(ctl_9_p.1), (ctl_9_p.2.1)⟩⟩) ?_
  refine ltc (Q := QC) (n := 27) (fun _ => ⟨(ctl_8_p.2.2.2.2.2.2.1), fun _ => ⟨(ctl_8_p.2.2.2.2.2.2.2.1), (ctl_8_p.2.2.2.2.2.2.2.2.1)⟩⟩) ?_
  refine ltc (Q := QC) (n := 26) (fun _ => ⟨(ctl_8_p.2.2.2.1), fun _ => ⟨(ctl_8_p.2.2.2.2.1), (ctl_8_p.2.2.2.2.2.1)⟩⟩) ?_
  refine ltc (Q := QC) (n := 25) (fun _ => ⟨(ctl_8_p.1), fun _ => ⟨(ctl_8_p.2.1), (ctl_8_p.2.2.1)⟩⟩) ?_
  refine ltc (Q := QC) (n := 24) (fun _ => ⟨(ctl_7_p.2.2.2.2.2.2.2.1), fun _ => ⟨(ctl_7_p.2.2.2.2.2.2.2.2.1), (ctl_7_p.2.2.2.2.2.2.2.2.2)⟩⟩) ?_
  refine ltc (Q := QC) (n := 23) (fun _ => ⟨(ctl_7_p.2.2.2.2.1), fun _ => ⟨(ctl_7_p.2.2.2.2.2.1), (ctl_7_p.2.2.2.2.2.2.1)⟩⟩) ?_
  refine ltc (Q := QC) (n := 22) (fun _ => ⟨(ctl_7_p.2.1), fun _ => ⟨(ctl_7_p.2.2.1), (ctl_7_p.2.2.2.1)⟩⟩) ?_
  refine ltc (Q := QC) (n := 21) (fun _ => ⟨(ctl_6_p.2.2.2.2.2.2.2.2.1), fun _ => ⟨(ctl_6_p.2.2.2.2.2.2.2.2.2), (ctl_7_p.1)⟩⟩) ?_
  refine ltc (Q := QC) (n := 20) (fun _ => ⟨(ctl_6_p.2.2.2.2.2.1), fun _ => ⟨(ctl_6_p.2.2.2.2.2.2.1), (ctl_6_p.2.2.2.2.2.2.2.1)⟩⟩) ?_
  refine ltc (Q := QC) (n := 19) (fun _ => ⟨(ctl_6_p.2.2.1), fun _ => ⟨(ctl_6_p.2.2.2.1), (ctl_6_p.2.2.2.2.1)⟩⟩) ?_
  refine ltc (Q := QC) (n := 18) (fun _ => ⟨(ctl_5_p.2.2.2.2.2.2.2.2.2), fun _ => ⟨(ctl_6_p.1), (ctl_6_p.2.1)⟩⟩) ?_
  refine ltc (Q := QC) (n := 17) (fun _ => ⟨(ctl_5_p.2.2.2.2.2.2.1), fun _ => ⟨(ctl_5_p.2.2.2.2.2.2.2.1), (ctl_5_p.2.2.2.2.2.2.2.2.1)⟩⟩) ?_
  refine ltc (Q := QC) (n := 16) (fun _ => ⟨(ctl_5_p.2.2.2.1), fun _ => ⟨(ctl_5_p.2.2.2.2.1), (ctl_5_p.2.2.2.2.2.1)⟩⟩) ?_
  refine ltc (Q := QC) (n := 15) (fun _ => ⟨(ctl_5_p.1), fun _ => ⟨(ctl_5_p.2.1), (ctl_5_p.2.2.1)⟩⟩) ?_
  refine ltc (Q := QC) (n := 14) (fun _ => ⟨(ctl_4_p.2.2.2.2.2.2.2.1), fun _ => ⟨(ctl_4_p.2.2.2.2.2.2.2.2.1), (ctl_4_p.2.2.2.2.2.2.2.2.2)⟩⟩) ?_
  refine ltc (Q := QC) (n := 13) (fun _ => ⟨(ctl_4_p.2.2.2.2.1), fun _ => ⟨(ctl_4_p.2.2.2.2.2.1), (ctl_4_p.2.2.2.2.2.2.1)⟩⟩) ?_
  refine ltc (Q := QC) (n := 12) (fun _ => ⟨(ctl_4_p.2.1), fun _ => ⟨(ctl_4_p.2.2.1), (ctl_4_p.2.2.2.1)⟩⟩) ?_
  refine ltc (Q := QC) (n := 11) (fun _ => ⟨(ctl_3_p.2.2.2.2.2.2.2.2.1), fun _ => ⟨(ctl_3_p.2.2.2.2.2.2.2.2.2), (ctl_4_p.1)⟩⟩) ?_
  refine ltc (Q := QC) (n := 10) (fun _ => ⟨(ctl_3_p.2.2.2.2.2.1), fun _ => ⟨(ctl_3_p.2.2.2.2.2.2.1), (ctl_3_p.2.2.2.2.2.2.2.1)⟩⟩) ?_
  refine ltc (Q := QC) (n := 9) (fun _ => ⟨(ctl_3_p.2.2.1), fun _ => ⟨(ctl_3_p.2.2.2.1), (ctl_3_p.2.2.2.2.1)⟩⟩) ?_
  refine ltc (Q := QC) (n := 8) (fun _ => ⟨(ctl_2_p.2.2.2.2.2.2.2.2.2), fun _ => ⟨(ctl_3_p.1), (ctl_3_p.2.1)⟩⟩) ?_
  refine ltc (Q := QC) (n := 7) (fun _ => ⟨(ctl_2_p.2.2.2.2.2.2.1), fun _ => ⟨(ctl_2_p.2.2.2.2.2.2.2.1), (ctl_2_p.2.2.2.2.2.2.2.2.1)⟩⟩) ?_
  refine ltc (Q := QC) (n := 6) (fun _ => ⟨(ctl_2_p.2.2.2.1), fun _ => ⟨(ctl_2_p.2.2.2.2.1), (ctl_2_p.2.2.2.2.2.1)⟩⟩) ?_
  refine ltc (Q := QC) (n := 5) (fun _ => ⟨(ctl_2_p.1), fun _ => ⟨(ctl_2_p.2.1), (ctl_2_p.2.2.1)⟩⟩) ?_
  refine ltc (Q := QC) (n := 4) (fun _ => ⟨(ctl_1_p.2.2.2.2.2.2.2.1), fun _ => ⟨(ctl_1_p.2.2.2.2.2.2.2.2.1), (ctl_1_p.2.2.2.2.2.2.2.2.2)⟩⟩) ?_
  refine ltc (Q := QC) (n := 3) (fun _ => ⟨(ctl_1_p.2.2.2.2.1), fun _ => ⟨(ctl_1_p.2.2.2.2.2.1), (ctl_1_p.2.2.2.2.2.2.1)⟩⟩) ?_
  refine ltc (Q := QC) (n := 2) (fun _ => ⟨(ctl_1_p.2.1), fun _ => ⟨(ctl_1_p.2.2.1), (ctl_1_p.2.2.2.1)⟩⟩) ?_
  refine ltc (Q := QC) (n := 1) (fun _ => ⟨(ctl_1_p.1), fun h => absurd h (by omega)⟩) ?_
  refine ltc (Q := QC) (n := 0) (fun h => absurd h (by omega)) ?_
  exact fun m h => absurd h (Nat.not_lt_zero m)
def Fits (c st : Nat) : Prop := 1 ≤ c ∧ (st = 0 ∨ 2 ≤ c ∧ (st = 1 ∨ st = 2))
theorem ctl_of {c st : Nat} (h : Fits c st) (h2 : c ≤ 60) : ctlB c st = true := by
  have q := ctl_q c (by omega) h.1
  rcases h.2 with rfl | ⟨h3, rfl | rfl⟩
  · exact q.1
  · exact (q.2 h3).1
  · exact (q.2 h3).2
theorem some_all {c st : Nat} (h : Fits c st) (h2 : c ≤ 61) : isSomeH (hpT (stT c st)) = true := by
  rcases Nat.lt_or_ge c 61 with e | e
  · exact some_of (ctl_of h (by omega))
  · obtain rfl : c = 61 := by omega
    have l := last_some
    simp only [Bool.and_eq_true] at l
    rcases h.2 with rfl | ⟨h3, rfl | rfl⟩
    · exact l.1
    · exact l.2.1
    · exact l.2.2
theorem fits_next {c st k : Nat} (h : Fits c st) (hk : k < 5) : Fits (nextC c st k) (nextS st k) ∧ nextC c st k ≤ c + 1 := by
  obtain ⟨h1, h2⟩ := h
  have key : ∀ a, a < 3 → ∀ b, b < 5 → (nextS a b < 3 ∧ nextC 0 a b ≤ 1 ∧ (nextS a b ≠ 0 → a ≠ 0 ∨ nextC 0 a b = 1)) := by decide
  have hst : st < 3 := by omega
  obtain ⟨k1, k2, k3⟩ := key st hst k hk
  have e : nextC c st k = c + nextC 0 st k := by unfold nextC; show c + _ = c + (0 + _); omega
  unfold Fits
  rw [e]
  refine ⟨⟨by omega, ?_⟩, by omega⟩
  by_cases z : nextS st k = 0
  · exact .inl z
  · exact .inr ⟨by rcases k3 z with q | q <;> omega, by omega⟩
def sqlT (k : Nat) : List Nat := [[66, 69, 71, 73, 78], [67, 79, 77, 77, 73, 84], [82, 79, 76, 76, 66, 65, 67, 75], [83, 69, 76, 69, 67, 84, 32, 120, 32, 70, 82, 79, 77, 32, 116], [83, 69, 76, 69, 67, 84, 32, 97, 32, 70, 82, 79, 77, 32, 116]].getD k []
theorem do_any {w : World} {base c st k : Nat} {dv sv : Value} (hf : Fits c st) (hc : c ≤ 60) (hk : k < 5) (h : Desk base c st dv w) (hs : StrIs (sqlT k) sv) :
    Calls Tryz.prog 17 #[dv, .int .i64 0, sv] w fun e w' => ∃ y z t, e = .returned (.tuple #[.agg #[.int .i64 (codeT st k), y, z, t], .int .i64 0]) ∧ (y.oneCell' = true ∧ z.oneCell' = true ∧ t.oneCell' = true) ∧ Desk base (nextC c st k) (nextS st k) dv w' ∧ Below base w w' := by
  have hn := fits_next hf hk
  have hn2 := some_all hn.1 (by omega)
  have q := ctl_of hf hc
  unfold ctlB at q
  simp only [Bool.and_eq_true] at q
  obtain ⟨_, _, r0, r1, r2, r3, r4⟩ := q
  rcases (by omega : k = 0 ∨ k = 1 ∨ k = 2 ∨ k = 3 ∨ k = 4) with rfl | rfl | rfl | rfl | rfl
  · exact one_any r0 hn2 h hs
  · exact one_any r1 hn2 h hs
  · exact one_any r2 hn2 h hs
  · exact one_any r3 hn2 h hs
  · exact one_any r4 hn2 h hs
theorem state_any {w : World} {base c st : Nat} {dv : Value} (hf : Fits c st) (hc : c ≤ 61) (h : Desk base c st dv w) :
    Calls Tryz.prog 18 #[dv, .int .i64 0] w fun e w' => e = .returned (.int .i64 st) ∧ Desk base c st dv w' ∧ Below base w w' := by
  refine state_of ?_ (some_all hf hc) h
  rcases Nat.lt_or_ge c 61 with e | e
  · have q := ctl_of hf (by omega : c ≤ 60)
    unfold ctlB at q; simp only [Bool.and_eq_true] at q; exact q.2.1
  · obtain rfl : c = 61 := by omega
    have l := last_state
    simp only [Bool.and_eq_true] at l
    rcases hf.2 with rfl | ⟨h3, rfl | rfl⟩
    · exact l.1
    · exact l.2.1
    · exact l.2.2
end Go.Proofs.YtekecchdjkkoeaaGreatDoor
