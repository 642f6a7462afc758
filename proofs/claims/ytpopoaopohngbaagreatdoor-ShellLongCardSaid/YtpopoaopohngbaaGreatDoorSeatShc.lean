/- desk.New, fault, a Builder and awake: their contracts. No condition. -/
import Derived.Test.YtpopoaopohngbaaGreatDoorSeatBase
import Derived.Test.YtpopoaopohngbaaGreatDoorEv5
import Derived.Test.YtpopoaopohngbaaGreatDoorSeatSh
import Derived.Test.YtpopoaopohngbaaGreatDoorSeatSa
import Derived.Test.YtpopoaopohngbaaGreatDoorBase
set_option linter.unusedVariables false
set_option linter.unusedSimpArgs false
namespace Go.Proofs.YtpopoaopohngbaaGreatDoor
open Go.Ev Go.RowKit Go.Lap
set_option maxRecDepth 100000
theorem fastY : CallOK Tryz.prog 10 (fun f args H nx => fcall Tryz.prog 10 113 100000 1000 f args H nx fin) := fast_ok (P := Tryz.prog) (G := 10) (rf := 113) (fun n => run_ok n) 100000 1000
theorem hpT_of {tl : List (Nat × TO)} (h : isSomeH (hpT tl) = true) : hpT tl = some (heapT tl) := by
  unfold heapT
  cases e : hpT tl with
  | none => rw [e] at h; cases h
  | some H => rfl
theorem tup2 {env : Env} {a b : AV} {c : Value} (h : VR env (.tup (.cons a (.cons b .nil))) c) : ∃ x y, c = .tuple #[x, y] ∧ VR env a x ∧ VR env b y := by
  obtain ⟨v, rfl, x, xs, e1, h1, y, ys, e2, h2, e3⟩ := h
  subst e3; subst e2
  refine ⟨x, y, ?_, h1, h2⟩
  rw [← Array.toList_inj.1 (show v.toList = (#[x, y] : Array Value).toList from e1)]
theorem VL1 {env : Env} {x : AV} {u : Value} (h1 : VR env x u) : VL env (.cons x .nil) [u] := ⟨u, [], rfl, h1, rfl⟩
/-- the globals lie as they did -/
def Glob (w : World) : Prop := SR (env0 10) H0 10 w
theorem Glob.kept {w w' : World} (h : Glob w) (hq : Only (fun _ => False) w w') : Glob w' := SR_quiet h hq.size (fun b hb => hq.block b hb (fun x => x))
theorem Glob.low {w : World} (h : Glob w) : 10 ≤ w.heap.size := by
  have := (h.bnd 9 ⟨9, 0, 0, 0⟩ (by rfl)).1
  simp only at this
  omega
theorem awake_any {w : World} (hs : Glob w) : Calls Tryz.prog 4 #[] w fun e w' => e = .returned (.bool true) ∧ Only (fun _ => False) w w' := by
  refine (calls_true (top_seat 100000) Tryz.func4 rfl (by decide +kernel) awake_run hs (xs := #[]) rfl).mono ?_
  rintro e w' ⟨h1, h2, h3, h4, h5, h6⟩
  exact ⟨h1, ⟨h4, h5, h6, h2, fun b hb _ => h3 b hb⟩⟩
theorem new_any {w : World} (hs : Glob w) :
    Calls Tryz.prog 6 #[.int .i64 100] w fun e w' => ∃ dv, e = .returned (.tuple #[dv, .int .i64 0]) ∧ dv.oneCell' = true ∧ Only (fun _ => False) w w' := by
  refine (tellX_ok fastY Tryz.func6 rfl (by decide +kernel) (hpT_of none_some) (by decide +kernel) (by decide +kernel) new_run (AtX.start (X := fun _ => False) (env0_GL 10) hs) (VL1 (show VR (env0 10) (.int .i64 (.ofNat 100)) (.int .i64 100) from rfl))).mono ?_
  rintro e w' ⟨c, env, rfl, hv, hat, _, hz, hf, ho, ht, hp⟩
  obtain ⟨x, y, rfl, h1, h2⟩ := tup2 hv
  simp only [VR] at h1 h2
  subst h2
  exact ⟨x, rfl, by cases x <;> first | rfl | exact h1, ⟨ho, ht, hp, hz, hf⟩⟩
theorem fault_any {w : World} (hs : Glob w) :
    Calls Tryz.prog 17 #[.int .i64 3] w fun e w' => (∃ s : ByteArray, e = .returned (.string s) ∧ s.data.toList.map (·.toNat) = [101, 114, 114, 111, 114, 32, 51]) ∧ Only (fun _ => False) w w' := by
  refine (tellX_ok fastY Tryz.func17 rfl (by decide +kernel) (hpT_of none_some) (by decide +kernel) (by decide +kernel) fault_run (AtX.start (X := fun _ => False) (env0_GL 10) hs) (VL1 (show VR (env0 10) (.int .i64 (.ofNat 3)) (.int .i64 3) from rfl))).mono ?_
  rintro e w' ⟨c, env, rfl, hv, hat, _, hz, hf, ho, ht, hp⟩
  obtain ⟨s, rfl, h1⟩ := hv
  exact ⟨⟨s, rfl, h1⟩, ⟨ho, ht, hp, hz, hf⟩⟩
/-- a block beside the globals -/
def env1 (b : Nat) : Env := fun id => if id < 10 then some ⟨id, 0, 0, 0⟩ else if id = 10 then some ⟨b, 0, 0, 0⟩ else none
theorem bld_at {w : World} {b : Nat} (hs : Glob w) (hb : w.heap[b]? = some (.cells #[.pointer none, .slice none 0 0] 33 (0, 0))) (hlow : 10 ≤ b) : AtX 10 (fun k => k = b) (heapT bldT0) (10 + 1) (env1 b) w := by
  have hH := hpT_of bld_some0
  have lb := lt_of_get hb
  have e0 : ∀ id L, env1 b id = some L → (id < 10 ∧ L = ⟨id, 0, 0, 0⟩) ∨ (id = 10 ∧ L = ⟨b, 0, 0, 0⟩) := by
    intro id L h
    unfold env1 at h
    split at h
    · cases h; exact .inl ⟨by assumption, rfl⟩
    · split at h
      · cases h; exact .inr ⟨by assumption, rfl⟩
      · cases h
  have hle : Le (env0 10) (env1 b) := fun id L h => by
    obtain ⟨h1, rfl⟩ := env0_lt h
    show (if id < 10 then _ else _) = _
    rw [if_pos h1]
  refine ⟨fun g h => ⟨⟨g, 0, 0, 0⟩, by show (if g < 10 then _ else _) = _; rw [if_pos h], rfl, rfl⟩, ⟨fun id L o hL ho => ?_, fun id L hL => ?_, fun id id' L L' o o' hL hL' ho ho' _ _ e => ?_, fun id hid => ?_⟩, fun id L h1 h2 => ?_⟩
  · obtain ⟨t, m, rfl⟩ := hpT_get hH id o ho
    simp only [bldT0, List.mem_cons, Prod.mk.injEq, List.not_mem_nil, or_false] at m
    rcases m with ⟨rfl, rfl⟩ | ⟨rfl, rfl⟩
    · rcases e0 _ _ hL with ⟨_, rfl⟩ | ⟨h, _⟩
      · obtain ⟨ob, r1, r2⟩ := hs.obj 8 ⟨8, 0, 0, 0⟩ _ (by rfl) (show H0.get 8 = some (toAO (.cells 39 0 568 (strsA rsvL))) by kernel_rfl)
        exact ⟨ob, r1, r2.ext hle⟩
      · omega
    · rcases e0 _ _ hL with ⟨h, _⟩ | ⟨_, rfl⟩
      · omega
      · refine ⟨_, hb, ?_⟩
        exact OR_row (c := (match rowOf (.cons .nilPtr (.cons .nilSl .nil)) with | some c => c | none => .e)) (l := .cons .nilPtr (.cons .nilSl .nil)) (by kernel_rfl) ⟨_, _, rfl, rfl, _, _, rfl, rfl, rfl⟩ b 33
  · rcases e0 _ _ hL with ⟨h, rfl⟩ | ⟨h, rfl⟩
    · have := hs.low; exact ⟨by show id < _; omega, by omega⟩
    · exact ⟨lb, by omega⟩
  · rcases e0 _ _ hL with ⟨h, rfl⟩ | ⟨h, rfl⟩ <;> rcases e0 _ _ hL' with ⟨h', rfl⟩ | ⟨h', rfl⟩ <;> simp only at e <;> omega
  · cases hh : (heapT bldT0).get id with
    | none => rfl
    | some o =>
      obtain ⟨t, m, _⟩ := hpT_get hH id o hh
      simp only [bldT0, List.mem_cons, Prod.mk.injEq, List.not_mem_nil, or_false] at m
      omega
  · rcases e0 _ _ h2 with ⟨h, rfl⟩ | ⟨h, rfl⟩
    · omega
    · rfl
/-- a Builder that has been written to once: what it holds lies in blocks of X -/
def BldX (X : Nat → Prop) (b : Nat) (w : World) : Prop := ∃ env, VR env (.ptr 10 0) (.pointer (some ⟨b, 0, none⟩)) ∧ AtX 10 X (heapT bldT1) (10 + 2) env w
theorem BldX.kept {X T : Nat → Prop} {b : Nat} {w w' : World} (h : BldX X b w) (hq : Only T w w') (hT : ∀ k, k < 10 ∨ X k → ¬ T k) : BldX X b w' := by
  obtain ⟨env, h1, h2⟩ := h
  exact ⟨env, h1, h2.kept hq.size (fun b hb hx => hq.block b hb (hT b hx))⟩
theorem write_any {w : World} {b : Nat} {s : ByteArray} (hs : Glob w) (hb : w.heap[b]? = some (.cells #[.pointer none, .slice none 0 0] 33 (0, 0))) (hlow : 10 ≤ b) (he : s.data.toList.map (·.toNat) = [101, 114, 114, 111, 114, 32, 51, 10]) :
    Calls Tryz.prog 8 #[.pointer (some ⟨b, 0, none⟩), .string s] w fun e w' => e = .returned (.tuple #[.int .i64 8, .nilIface]) ∧ BldX (fun k => k = b ∨ (w.heap.size ≤ k ∧ k < w'.heap.size)) b w' ∧ Only (fun k => k = b) w w' := by
  have hp0 : VR (env1 b) (.ptr 10 0) (.pointer (some ⟨b, 0, none⟩)) := ⟨⟨b, 0, 0, 0⟩, by rfl, rfl⟩
  refine (tellX_ok fastY Tryz.func8 rfl (by decide +kernel) (hpT_of bld_some1) (by decide +kernel) (by decide +kernel) write_run (bld_at hs hb hlow) (VL2 hp0 ⟨s, rfl, he⟩)).mono ?_
  rintro e w' ⟨c, env, rfl, hv, hat, hk, hz, hf, ho, ht, hp⟩
  obtain ⟨x, y, rfl, h1, h2⟩ := tup2 hv
  simp only [VR] at h1 h2
  subst h1; subst h2
  exact ⟨rfl, ⟨env, hk 10 0 _ rfl (by omega) hp0, hat⟩, ⟨ho, ht, hp, hz, hf⟩⟩
theorem string_any {w : World} {b : Nat} {X : Nat → Prop} (h : BldX X b w) :
    Calls Tryz.prog 10 #[.pointer (some ⟨b, 0, none⟩)] w fun e w' => (∃ s : ByteArray, e = .returned (.string s) ∧ s.data.toList.map (·.toNat) = [101, 114, 114, 111, 114, 32, 51, 10]) ∧ Only X w w' := by
  obtain ⟨env, h1, h2⟩ := h
  refine (tellX_ok fastY Tryz.func10 rfl (by decide +kernel) (hpT_of none_some) (by decide +kernel) (by decide +kernel) string_run h2 (VL1 h1)).mono ?_
  rintro e w' ⟨c, env, rfl, hv, hat, _, hz, hf, ho, ht, hp⟩
  obtain ⟨s, rfl, h1⟩ := hv
  exact ⟨⟨s, rfl, h1⟩, ⟨ho, ht, hp, hz, hf⟩⟩
end Go.Proofs.YtpopoaopohngbaaGreatDoor
