/- desk.New, Open and awake: their contracts. No condition. -/
import Derived.Test.YtahfajdmhnjkeaaGreatDoorSeatBase
import Derived.Test.YtahfajdmhnjkeaaGreatDoorEv5
import Derived.Test.YtahfajdmhnjkeaaGreatDoorSeatYd
import Derived.Test.YtahfajdmhnjkeaaGreatDoorBase
set_option linter.unusedVariables false
set_option linter.unusedSimpArgs false
namespace Go.Proofs.YtahfajdmhnjkeaaGreatDoor
open Go.Ev Go.RowKit Go.Lap
set_option maxRecDepth 100000
theorem fastY : CallOK Tryz.prog 5 (fun f args H nx => fcall Tryz.prog 5 58 100000 1000 f args H nx fin) := fast_ok (P := Tryz.prog) (G := 5) (rf := 58) (fun n => run_ok n) 100000 1000
theorem hpT_of {tl : List (Nat × TO)} (h : isSomeH (hpT tl) = true) : hpT tl = some (heapT tl) := by
  unfold heapT
  cases e : hpT tl with
  | none => rw [e] at h; cases h
  | some H => rfl
theorem tup2 {env : Env} {a b : AV} {c : Value} (h : VR env (.tup (.cons a (.cons b .nil))) c) : ∃ x y, c = .tuple #[x, y] ∧ VR env a x ∧ VR env b y := by
  obtain ⟨v, rfl, x, xs, e1, h1, y, ys, e2, h2, e3⟩ := h
  subst e3; subst e2
  refine ⟨x, y, ?_, h1, h2⟩
  rw [← Array.toList_inj.1 (show v.toList = (#[x, y] : Array Value).toList from e1)]
theorem VL1 {env : Env} {x : AV} {u : Value} (h1 : VR env x u) : VL env (.cons x .nil) [u] := ⟨u, [], rfl, h1, rfl⟩
/-- the globals lie as they did -/
def Glob (w : World) : Prop := SR (env0 5) H0 5 w
theorem Glob.kept {w w' : World} (h : Glob w) (hq : Only (fun _ => False) w w') : Glob w' := SR_quiet h hq.size (fun b hb => hq.block b hb (fun x => x))
theorem awake_any {w : World} (hs : Glob w) : Calls Tryz.prog 4 #[] w fun e w' => e = .returned (.bool true) ∧ Only (fun _ => False) w w' := by
  refine (calls_true (top_seat 100000) Tryz.func4 rfl (by decide +kernel) awake_run hs (xs := #[]) rfl).mono ?_
  rintro e w' ⟨h1, h2, h3, h4, h5, h6⟩
  exact ⟨h1, ⟨h4, h5, h6, h2, fun b hb _ => h3 b hb⟩⟩
noncomputable def deskT : Nat → List (Nat × TO)
  | 0 => deskT0 | 1 => deskT1 | 2 => deskT2 | 3 => deskT3 | 4 => deskT4 | 5 => deskT5 | _ => deskT6
/-- a desk of k sessions, in blocks of X -/
def DeskX (k : Nat) (X : Nat → Prop) (dv : Value) (w : World) : Prop := ∃ env, VR env (.ptr 13 0) dv ∧ AtX 5 X (heapT (deskT k)) (14 + k) env w
theorem DeskX.kept {k : Nat} {X T : Nat → Prop} {dv : Value} {w w' : World} (h : DeskX k X dv w) (hq : Only T w w') (hT : ∀ b, b < 5 ∨ X b → ¬ T b) : DeskX k X dv w' := by
  obtain ⟨env, h1, h2⟩ := h
  exact ⟨env, h1, h2.kept hq.size (fun b hb hx => hq.block b hb (hT b hx))⟩
theorem DeskX.mono {k : Nat} {X Y : Nat → Prop} {dv : Value} {w : World} (h : DeskX k X dv w) (hs : ∀ b, X b → Y b) : DeskX k Y dv w := by
  obtain ⟨env, h1, h2⟩ := h
  exact ⟨env, h1, h2.mono hs⟩
theorem DeskX.ptr {k : Nat} {X : Nat → Prop} {dv : Value} {w : World} (h : DeskX k X dv w) : ∃ p, dv = .pointer (some p) := by
  obtain ⟨env, ⟨L, _, h1⟩, h2⟩ := h
  exact ⟨_, h1⟩
theorem new_any {w : World} (hs : Glob w) (pages : Int) (h0 : 0 ≤ pages) (h1 : pages ≤ 256) :
    Calls Tryz.prog 20 #[.int .i64 pages] w fun e w' => ∃ dv, e = .returned (.tuple #[dv, .int .i64 0]) ∧ DeskX 0 (fun b => w.heap.size ≤ b ∧ b < w'.heap.size) dv w' ∧ Only (fun _ => False) w w' := by
  refine (tellX_ok fastY Tryz.func20 rfl (by decide +kernel) (hpT_of desk_some0) (by decide +kernel) (by decide +kernel) new_run (AtX.start (X := fun _ => False) (env0_GL 5) hs) (VL1 (show VR (env0 5) (.rng (some 0) (some 256)) (.int .i64 pages) from ⟨pages, rfl, fun l e => by injection e with e; omega, fun l e => by injection e with e; omega⟩))).mono ?_
  rintro e w' ⟨c, env, rfl, hv, hat, _, hz, hf, ho, ht, hp⟩
  obtain ⟨x, y, rfl, h1, h2⟩ := tup2 hv
  simp only [VR] at h2
  subst h2
  exact ⟨x, rfl, ⟨env, h1, hat.mono (fun b hb => by rcases hb with hb | hb; exact hb.elim; exact hb)⟩, ⟨ho, ht, hp, hz, hf⟩⟩
theorem new_bad {w : World} (hs : Glob w) (pages : Int) (h0 : pages < 0 ∨ 256 < pages) :
    Calls Tryz.prog 20 #[.int .i64 pages] w fun e w' => e = .returned (.tuple #[.pointer none, .int .i64 1]) ∧ Only (fun _ => False) w w' := by
  have key : ∀ lo hi, tellR [] noneT 5 (.tup (.cons .nilPtr (.cons (.int .i64 (.ofNat 1)) .nil))) (fcall Tryz.prog 5 58 100000 1000 20 (.cons (.rng lo hi) .nil) H0 5 fin) = true → (∀ l, lo = some l → l ≤ pages) → (∀ h, hi = some h → pages ≤ h) →
      Calls Tryz.prog 20 #[.int .i64 pages] w fun e w' => e = .returned (.tuple #[.pointer none, .int .i64 1]) ∧ Only (fun _ => False) w w' := by
    intro lo hi hr hl hh
    refine (tellX_ok fastY Tryz.func20 rfl (by decide +kernel) (hpT_of none_some) (by decide +kernel) (by decide +kernel) hr (AtX.start (X := fun _ => False) (env0_GL 5) hs) (VL1 (show VR (env0 5) (.rng lo hi) (.int .i64 pages) from ⟨pages, rfl, hl, hh⟩))).mono ?_
    rintro e w' ⟨c, env, rfl, hv, hat, _, hz, hf, ho, ht, hp⟩
    obtain ⟨x, y, rfl, h1, h2⟩ := tup2 hv
    simp only [VR] at h1 h2
    subst h1; subst h2
    exact ⟨rfl, ⟨ho, ht, hp, hz, hf⟩⟩
  rcases h0 with h0 | h0
  · exact key _ _ new_low (fun l e => by cases e) (fun l e => by injection e with e; omega)
  · exact key _ _ new_high (fun l e => by injection e with e; omega) (fun l e => by cases e)
theorem open_any0 {w : World} {X : Nat → Prop} {dv : Value} (h : DeskX 0 X dv w) :
    Calls Tryz.prog 21 #[dv] w fun e w' => (∃ n : Int, e = .returned (.tuple #[.int .i64 n, .int .i64 0])) ∧ DeskX 1 (fun b => X b ∨ (w.heap.size ≤ b ∧ b < w'.heap.size)) dv w' ∧ Only X w w' := by
  obtain ⟨env, hd, hat⟩ := h
  refine (tellX_ok fastY Tryz.func21 rfl (by decide +kernel) (hpT_of desk_some1) (by decide +kernel) (by decide +kernel) open_run0 hat (VL1 hd)).mono ?_
  rintro e w' ⟨c, env', rfl, hv, hat, hk, hz, hf, ho, ht, hp⟩
  obtain ⟨x, y, rfl, h1, h2⟩ := tup2 hv
  simp only [VR] at h1 h2
  subst h1; subst h2
  exact ⟨⟨_, rfl⟩, ⟨env', hk 13 0 dv rfl (by omega) hd, hat⟩, ⟨ho, ht, hp, hz, hf⟩⟩
theorem open_any1 {w : World} {X : Nat → Prop} {dv : Value} (h : DeskX 1 X dv w) :
    Calls Tryz.prog 21 #[dv] w fun e w' => (∃ n : Int, e = .returned (.tuple #[.int .i64 n, .int .i64 0])) ∧ DeskX 2 (fun b => X b ∨ (w.heap.size ≤ b ∧ b < w'.heap.size)) dv w' ∧ Only X w w' := by
  obtain ⟨env, hd, hat⟩ := h
  refine (tellX_ok fastY Tryz.func21 rfl (by decide +kernel) (hpT_of desk_some2) (by decide +kernel) (by decide +kernel) open_run1 hat (VL1 hd)).mono ?_
  rintro e w' ⟨c, env', rfl, hv, hat, hk, hz, hf, ho, ht, hp⟩
  obtain ⟨x, y, rfl, h1, h2⟩ := tup2 hv
  simp only [VR] at h1 h2
  subst h1; subst h2
  exact ⟨⟨_, rfl⟩, ⟨env', hk 13 0 dv rfl (by omega) hd, hat⟩, ⟨ho, ht, hp, hz, hf⟩⟩
theorem open_any2 {w : World} {X : Nat → Prop} {dv : Value} (h : DeskX 2 X dv w) :
    Calls Tryz.prog 21 #[dv] w fun e w' => (∃ n : Int, e = .returned (.tuple #[.int .i64 n, .int .i64 0])) ∧ DeskX 3 (fun b => X b ∨ (w.heap.size ≤ b ∧ b < w'.heap.size)) dv w' ∧ Only X w w' := by
  obtain ⟨env, hd, hat⟩ := h
  refine (tellX_ok fastY Tryz.func21 rfl (by decide +kernel) (hpT_of desk_some3) (by decide +kernel) (by decide +kernel) open_run2 hat (VL1 hd)).mono ?_
  rintro e w' ⟨c, env', rfl, hv, hat, hk, hz, hf, ho, ht, hp⟩
  obtain ⟨x, y, rfl, h1, h2⟩ := tup2 hv
  simp only [VR] at h1 h2
  subst h1; subst h2
  exact ⟨⟨_, rfl⟩, ⟨env', hk 13 0 dv rfl (by omega) hd, hat⟩, ⟨ho, ht, hp, hz, hf⟩⟩
theorem open_any3 {w : World} {X : Nat → Prop} {dv : Value} (h : DeskX 3 X dv w) :
    Calls Tryz.prog 21 #[dv] w fun e w' => (∃ n : Int, e = .returned (.tuple #[.int .i64 n, .int .i64 0])) ∧ DeskX 4 (fun b => X b ∨ (w.heap.size ≤ b ∧ b < w'.heap.size)) dv w' ∧ Only X w w' := by
  obtain ⟨env, hd, hat⟩ := h
  refine (tellX_ok fastY Tryz.func21 rfl (by decide +kernel) (hpT_of desk_some4) (by decide +kernel) (by decide +kernel) open_run3 hat (VL1 hd)).mono ?_
  rintro e w' ⟨c, env', rfl, hv, hat, hk, hz, hf, ho, ht, hp⟩
  obtain ⟨x, y, rfl, h1, h2⟩ := tup2 hv
  simp only [VR] at h1 h2
  subst h1; subst h2
  exact ⟨⟨_, rfl⟩, ⟨env', hk 13 0 dv rfl (by omega) hd, hat⟩, ⟨ho, ht, hp, hz, hf⟩⟩
theorem open_any4 {w : World} {X : Nat → Prop} {dv : Value} (h : DeskX 4 X dv w) :
    Calls Tryz.prog 21 #[dv] w fun e w' => (∃ n : Int, e = .returned (.tuple #[.int .i64 n, .int .i64 0])) ∧ DeskX 5 (fun b => X b ∨ (w.heap.size ≤ b ∧ b < w'.heap.size)) dv w' ∧ Only X w w' := by
  obtain ⟨env, hd, hat⟩ := h
  refine (tellX_ok fastY Tryz.func21 rfl (by decide +kernel) (hpT_of desk_some5) (by decide +kernel) (by decide +kernel) open_run4 hat (VL1 hd)).mono ?_
  rintro e w' ⟨c, env', rfl, hv, hat, hk, hz, hf, ho, ht, hp⟩
  obtain ⟨x, y, rfl, h1, h2⟩ := tup2 hv
  simp only [VR] at h1 h2
  subst h1; subst h2
  exact ⟨⟨_, rfl⟩, ⟨env', hk 13 0 dv rfl (by omega) hd, hat⟩, ⟨ho, ht, hp, hz, hf⟩⟩
theorem open_any5 {w : World} {X : Nat → Prop} {dv : Value} (h : DeskX 5 X dv w) :
    Calls Tryz.prog 21 #[dv] w fun e w' => (∃ n : Int, e = .returned (.tuple #[.int .i64 n, .int .i64 0])) ∧ DeskX 6 (fun b => X b ∨ (w.heap.size ≤ b ∧ b < w'.heap.size)) dv w' ∧ Only X w w' := by
  obtain ⟨env, hd, hat⟩ := h
  refine (tellX_ok fastY Tryz.func21 rfl (by decide +kernel) (hpT_of desk_some6) (by decide +kernel) (by decide +kernel) open_run5 hat (VL1 hd)).mono ?_
  rintro e w' ⟨c, env', rfl, hv, hat, hk, hz, hf, ho, ht, hp⟩
  obtain ⟨x, y, rfl, h1, h2⟩ := tup2 hv
  simp only [VR] at h1 h2
  subst h1; subst h2
  exact ⟨⟨_, rfl⟩, ⟨env', hk 13 0 dv rfl (by omega) hd, hat⟩, ⟨ho, ht, hp, hz, hf⟩⟩
theorem open_any {w : World} {X : Nat → Prop} {dv : Value} {k : Nat} (hk : k < 6) (h : DeskX k X dv w) :
    Calls Tryz.prog 21 #[dv] w fun e w' => (∃ n : Int, e = .returned (.tuple #[.int .i64 n, .int .i64 0])) ∧ DeskX (k + 1) (fun b => X b ∨ (w.heap.size ≤ b ∧ b < w'.heap.size)) dv w' ∧ Only X w w' := by
  rcases (by omega : k = 0 ∨ k = 1 ∨ k = 2 ∨ k = 3 ∨ k = 4 ∨ k = 5) with rfl | rfl | rfl | rfl | rfl | rfl
  · exact open_any0 h
  · exact open_any1 h
  · exact open_any2 h
  · exact open_any3 h
  · exact open_any4 h
  · exact open_any5 h
end Go.Proofs.YtahfajdmhnjkeaaGreatDoor
