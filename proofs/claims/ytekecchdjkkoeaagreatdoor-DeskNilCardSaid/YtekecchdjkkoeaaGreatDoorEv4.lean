/- An evaluator of the model, and why what it tells is so (part 4). No condition. -/
import Derived.Test.YtekecchdjkkoeaaGreatDoorEv3
import Derived.Lib.LaidU8
import Derived.Handed
set_option linter.unusedVariables false
set_option linter.unusedSimpArgs false
namespace Go.Ev
variable {P : Program} {G : Nat} {env : Env} {tm : T AV} {a : Act} {H : Hp} {nx : Nat} {w : World}

/-- none of the program's functions without a body is of another kind -/
def NextOK (P : Program) : Prop := ∀ (f : Nat) (fn : Func), P.funcs[f]? = some fn → fn.body = none → Extern.findNext fn = none

theorem done_value {f : Nat} {fn : Func} {e : Array Value → Sem Value} (hf : P.funcs[f]? = some fn) (hb : fn.body = none) (hname : fn.name ≠ "runtime.NumGoroutine") (hn : Extern.findNext fn = none) (he : Extern.find fn = some e)
    {xs : Array Value} {c : Value} {w' : World} {v : AV} {H' : Hp} {nx' : Nat} (hr : (e xs).run P w = .ok c w') (hg : Gives G env H nx w v H' nx' c w') : Done P G env H nx w f xs v H' nx' := by
  refine .inr ⟨c, w', ?_, hg⟩
  rw [run_callFunc_extern hf (by simpa using hname) (by rw [hb]; rfl) hn he, hr]
  rfl

theorem gives_same {v : AV} {c : Value} (hs : SR env H nx w) (hv : VR env v c) : Gives G env H nx w v H nx c w := ⟨env, hv, hs, Tr.refl ..⟩

theorem VL2 {x y : AV} {xs : Array Value} (h : VL env (.cons x (.cons y .nil)) xs.toList) : ∃ a b, xs = #[a, b] ∧ VR env x a ∧ VR env y b := by
  obtain ⟨a, l, e1, h1, b, l', e2, h2, e3⟩ := h
  refine ⟨a, b, ?_, h1, h2⟩
  apply Array.ext'
  rw [e1, e2, e3]
theorem VL1 {x : AV} {xs : Array Value} (h : VL env (.cons x .nil) xs.toList) : ∃ a, xs = #[a] ∧ VR env x a := by
  obtain ⟨a, l, e1, h1, e3⟩ := h
  refine ⟨a, ?_, h1⟩
  apply Array.ext'
  rw [e1, e3]

theorem ext_index {f : Nat} {fn : Func} (hf : P.funcs[f]? = some fn) (hb : fn.body = none) (hname : fn.name ≠ "runtime.NumGoroutine") (hn : Extern.findNext fn = none) (he : Extern.find fn = some Extern.BytealgIndexByte.indexByte)
    {args : AV} {v : AV} {H' : Hp} {nx' : Nat} (h : extA .index args H nx = .v v H' nx') {xs : Array Value} (hv : VL env args xs.toList) (hs : SR env H nx w) : Done P G env H nx w f xs v H' nx' := by
  simp only [extA] at h
  split at h <;> first | (cases h; done) | (exfalso; rename_i heq; cases heq; done) | (exfalso; rename_i heq _; cases heq; done) | skip
  rename_i x c heq1
  split at h
  · rename_i l hl
    cases hc : Nat.blt c 256 <;> rw [hc] at h
    · cases h
    · cases h
      obtain ⟨b, d, rfl, r1, r2⟩ := VL2 hv
      simp only [VR] at r2
      subst r2
      obtain ⟨s, q1, q2⟩ := bytesOfA_sound (P := P) hs hl r1
      have hlt : c < 256 := Nat.le_of_ble_eq_true hc
      refine done_value hf hb hname hn he (c := .int .i64 (Lib.indexByte s.data.toList c.toUInt8)) ?_ (gives_same hs ?_)
      · have : (Extern.BytealgIndexByte.indexByte #[b, .int .u8 (Int.ofNat c)]).run P w = ((do
            let c' ← Extern.Bytes.asByte (.int .u8 (Int.ofNat c))
            match (List.range s.size).find? fun i => s[i]! == c' with
            | some i => pure (goInt i)
            | none => pure (goInt (-1)) : Sem Value)).run P w := by
          show Sem.run P (do
            let b ← Extern.Bytes.bytesOf b
            let c' ← Extern.Bytes.asByte (.int .u8 (Int.ofNat c))
            match (List.range b.size).find? fun i => b[i]! == c' with
            | some i => pure (goInt i)
            | none => pure (goInt (-1))) w = _
          rw [Sem.run_bind, q1]
          rfl
        rw [this]
        have k := Lib.run_indexByteString (P := P) s (Int.ofNat c) w
        have e2 : (Int.ofNat c).toNat.toUInt8 = c.toUInt8 := rfl
        rw [e2] at k
        rw [← k]
        rfl
      · simp only [VR]
        rw [← q2, idxL_eq hlt]
        congr 1
        split
        · rename_i e; exact e
        · simp
  · cases h

theorem ext_compare {f : Nat} {fn : Func} (hf : P.funcs[f]? = some fn) (hb : fn.body = none) (hname : fn.name ≠ "runtime.NumGoroutine") (hn : Extern.findNext fn = none) (he : Extern.find fn = some Extern.BytealgCompare.compare)
    {args : AV} {v : AV} {H' : Hp} {nx' : Nat} (h : extA .compare args H nx = .v v H' nx') {xs : Array Value} (hv : VL env args xs.toList) (hs : SR env H nx w) : Done P G env H nx w f xs v H' nx' := by
  simp only [extA] at h
  split at h <;> first | (cases h; done) | (exfalso; rename_i heq; cases heq; done) | (exfalso; rename_i heq _; cases heq; done) | skip
  rename_i x y heq1 heq2
  cases heq2
  split at h
  · rename_i l m hl hm
    cases h
    obtain ⟨b, d, rfl, r1, r2⟩ := VL2 hv
    obtain ⟨s, q1, q2⟩ := bytesOfA_sound (P := P) hs hl r1
    obtain ⟨t, q3, q4⟩ := bytesOfA_sound (P := P) hs hm r2
    refine done_value hf hb hname hn he (c := .int .i64 (Extern.BytealgCompare.cmp s t)) ?_ (gives_same hs ?_)
    · show Sem.run P (do pure (goInt (Extern.BytealgCompare.cmp (← Extern.Bytes.bytesOf b) (← Extern.Bytes.bytesOf d)))) w = _
      simp only [Sem.run_bind, q1, q3, Result.andThen_ok, Sem.run_pure, goInt]
    · simp only [VR]
      rw [cmp_eq, q2, q4]
  · cases h

theorem ext_same {f : Nat} {fn : Func} (hf : P.funcs[f]? = some fn) (hb : fn.body = none) (hname : fn.name ≠ "runtime.NumGoroutine") (hn : Extern.findNext fn = none) (he : Extern.find fn = some Extern.AbiNoEscape.same)
    {args : AV} {v : AV} {H' : Hp} {nx' : Nat} (h : extA .same args H nx = .v v H' nx') {xs : Array Value} (hv : VL env args xs.toList) (hs : SR env H nx w) : Done P G env H nx w f xs v H' nx' := by
  simp only [extA] at h
  split at h <;> first | (cases h; done) | (exfalso; rename_i heq; cases heq; done) | (exfalso; rename_i heq _; cases heq; done) | skip
  cases h
  obtain ⟨b, rfl, r1⟩ := VL1 hv
  exact done_value hf hb hname hn he (c := b) rfl (gives_same hs r1)

theorem ext_mnz {f : Nat} {fn : Func} (hf : P.funcs[f]? = some fn) (hb : fn.body = none) (hname : fn.name ≠ "runtime.NumGoroutine") (hn : Extern.findNext fn = none) (he : Extern.find fn = some (Extern.BytealgMakeNoZero.makeNoZero fn.params fn.resultTypes))
    {t e : Nat} (ht : fn.resultTypes[0]? = some t) (hu : P.underlying t = some (.slice e))
    {args : AV} {v : AV} {H' : Hp} {nx' : Nat} (h : extA (.makeNoZero e) args H nx = .v v H' nx') {xs : Array Value} (hv : VL env args xs.toList) (hs : SR env H nx w) : Done P G env H nx w f xs v H' nx' := by
  simp only [extA] at h
  split at h <;> first | (cases h; done) | (exfalso; rename_i heq; cases heq; done) | (exfalso; rename_i heq _; cases heq; done) | skip
  rename_i e' n heq1
  cases heq1
  cases hc : Nat.ble n 100000 <;> rw [hc] at h
  · cases h
  simp only [cond_true, R.new] at h
  split at h
  · rename_i H1 hp
    cases h
    have hle : n ≤ 100000 := Nat.le_of_ble_eq_true hc
    obtain ⟨b, rfl, r1⟩ := VL1 hv
    simp only [VR] at r1
    subst r1
    let q1 := (Question.appendCap n 0 e).cut (w.tape w.drawn (.appendCap n 0 e))
    have hq1 : n ≤ q1 := by show n ≤ n + _; omega
    let q2 := (Question.extern "internal/bytealg.MakeNoZero.bytes" 0).cut (w.tape (w.drawn + 1) (.extern "internal/bytealg.MakeNoZero.bytes" 0))
    have hsz := digits_size q1 q2 #[]
    simp only [Array.size_empty, Nat.zero_add] at hsz
    have hrun : (Extern.BytealgMakeNoZero.makeNoZero fn.params fn.resultTypes #[.int .i64 (Int.ofNat n)]).run P w =
        .ok (.slice (some ⟨w.heap.size, 0, none⟩) n q1) { w with drawn := w.drawn + 1 + 1, heap := w.heap.push (.cells (Extern.BytealgMakeNoZero.digits q1 q2 #[]) e) } := by
      have c3 : ¬ (Int.ofNat n < 0) := by simp
      have c4 : ¬ (Int.ofNat n > 2 ^ 48) := by simp only [Int.ofNat_eq_natCast]; omega
      show Sem.run P (do
        let some t := fn.resultTypes[0]? | stuck "bytealg.MakeNoZero: no result type"
        let .slice elem ← underlying t | stuck "bytealg.MakeNoZero: slice type expected"
        if (Int.ofNat n) < 0 || (Int.ofNat n) > 2 ^ 48 then runtimePanic (.error "makeslice: len out of range")
        let cap ← choose (.appendCap (Int.ofNat n).toNat 0 elem)
        askRoom cap
        let bytes ← choose (.extern "internal/bytealg.MakeNoZero.bytes" 0)
        let a ← newRow elem (Extern.BytealgMakeNoZero.digits cap bytes #[])
        pure (Value.slice (some a) (Int.ofNat n).toNat cap)) w = _
      have c5 : (decide (Int.ofNat n < 0) || decide (Int.ofNat n > 2 ^ 48)) = false := by simp only [c3, c4, decide_false, Bool.or_self]
      simp only [ht, Sem.run_bind, underlying_run hu, Result.andThen_ok]
      rw [c5]
      simp only [Bool.false_eq_true, if_false, Sem.run_bind, Sem.run_pure, Result.andThen_ok, run_choose, Question.forced, run_askRoom, Int.toNat_natCast, Int.ofNat_eq_natCast]
      have c6 : decide (0 = 1) = false := rfl
      simp only [c6, Bool.false_eq_true, if_false, Result.andThen_ok, newRow_run]
      rfl
    obtain ⟨env', s1, s2, s3, _⟩ := SR.new (G := G) hs (o := .cells (T.rep .unk n n) n 1 e) (ob := .cells (Extern.BytealgMakeNoZero.digits q1 q2 #[]) e) ⟨w.heap.size, 0, q1, 1⟩ rfl hp rfl (w' := { w with drawn := w.drawn + 1 + 1, heap := w.heap.push (.cells (Extern.BytealgMakeNoZero.digits q1 q2 #[]) e) }) rfl rfl rfl (by
      intro env' _ hL
      refine ⟨_, _, rfl, by show 0 + n ≤ _; omega, fun h => (by cases h), fun _ => ⟨rfl, by show 0 + q1 = _; omega⟩, ?_, fun k _ h => by have := h.2; simp at this⟩
      intro i v hv
      obtain ⟨rfl, hi⟩ := T.get_rep _ _ _ _ _ hv
      obtain ⟨m, hm⟩ := hsz.2 i (by omega) (by omega)
      exact ⟨hi, .int .u8 m, by show (Extern.BytealgMakeNoZero.digits q1 q2 #[])[0 + i]? = _; rw [Nat.zero_add]; exact hm, rfl⟩)
    refine done_value hf hb hname hn he hrun ⟨env', ?_, s2, s3⟩
    refine ⟨_, q1, s1, rfl, ?_⟩
    show 0 + q1 * 1 = q1; omega
  · cases h

theorem ext_ok (hnext : NextOK P) : ExtOK P G := by
  intro f fn hf hb args H nx v H' nx' h env w xs hg hv hs
  have hn := hnext f fn hf hb
  unfold extOf at h
  split at h
  · rename_i e; exact ext_index hf hb (by rw [e]; decide) hn (find_ibs e) h hv hs
  · rename_i e; exact ext_index hf hb (by rw [e]; decide) hn (find_ib e) h hv hs
  · rename_i e; exact ext_compare hf hb (by rw [e]; decide) hn (find_cmp e) h hv hs
  · rename_i e; exact ext_same hf hb (by rw [e]; decide) hn (find_same e) h hv hs
  · rename_i e
    split at h
    · rename_i t ht
      split at h
      · rename_i el hu
        exact ext_mnz hf hb (by rw [e]; decide) hn (find_mnz e) ht hu h hv hs
      · simp only [extA] at h; cases h
    · simp only [extA] at h; cases h
  · simp only [extA] at h; cases h
end Go.Ev

namespace Go.Ev
variable {P : Program} {G : Nat} {tm tm' : T AV}

def SameOn (tm tm' : T AV) (l : List Nat) : Prop := ∀ i, i ∈ l → tm.get i = tm'.get i
theorem SameOn.symm {l : List Nat} (h : SameOn tm tm' l) : SameOn tm' tm l := fun i hi => (h i hi).symm
theorem sameOn_app {l m : List Nat} : SameOn tm tm' (l ++ m) ↔ SameOn tm tm' l ∧ SameOn tm tm' m :=
  ⟨fun h => ⟨fun i hi => h i (List.mem_append_left _ hi), fun i hi => h i (List.mem_append_right _ hi)⟩, fun ⟨h, k⟩ i hi => (List.mem_append.1 hi).elim (h i) (k i)⟩
theorem opd_same {x : CO} (h : SameOn tm tm' x.see) : opd tm x = opd tm' x := by
  cases x with
  | t i => exact h i (by simp [CO.see])
  | c v => rfl
theorem lim_same {x : Option CO} {d : Nat} (h : SameOn tm tm' (seeO x)) : lim tm x d = lim tm' x d := by
  cases x with
  | none => rfl
  | some c => simp only [lim, opd_same (x := c) h]
theorem opds_same : ∀ {l : List CO}, SameOn tm tm' (seeL l) → opds tm l = opds tm' l
  | [], _ => rfl
  | x :: l, h => by
    simp only [seeL, sameOn_app] at h
    simp only [opds, opd_same h.1, opds_same h.2]
theorem fillL_same : ∀ {l : List (Nat × Nat × CO)} {z : AV}, SameOn tm tm' (seeP l) → fillL tm z l = fillL tm' z l
  | [], _, _ => rfl
  | (o, s, x) :: l, z, h => by
    simp only [seeP, sameOn_app] at h
    simp only [fillL, opd_same h.1, fun z => fillL_same (z := z) h.2]
theorem pure_same {co : COp} (h : SameOn tm tm' co.sees) : pureA P co tm = pureA P co tm' := by
  cases co <;> simp only [COp.sees, sameOn_app] at h <;> simp only [pureA] <;>
    first
      | rfl
      | (simp only [opd_same h]; done)
      | (simp only [opd_same h.1, opd_same h.2]; done)
      | (simp only [opd_same h.1, opd_same h.2.1, opd_same h.2.2]; done)
      | (simp only [opds_same h.1, opds_same h.2]; done)
      | (simp only [fillL_same h]; done)
      | (simp only [opd_same h.1, lim_same h.2.1, lim_same h.2.2]; done)
      | (simp only [opd_same h.1, lim_same h.2.1, lim_same h.2.2.1, lim_same h.2.2.2]; done)
theorem read_same {co : COp} {H : Hp} (h : SameOn tm tm' co.sees) : readA P co tm H = readA P co tm' H := by
  cases co with
  | slice s x lo hi mx =>
    simp only [COp.sees, sameOn_app] at h
    cases mx with
    | none => simp only [readA, opd_same h.1, lim_same h.2.1, lim_same h.2.2.1, lim_same h.2.2.2]
    | some m => simp only [readA, opd_same h.1, lim_same h.2.1, lim_same h.2.2.1, lim_same h.2.2.2, opd_same (x := m) h.2.2.2]
  | _ =>
    simp only [COp.sees, sameOn_app] at h
    simp only [readA] <;>
    first
      | rfl
      | (simp only [opd_same h]; done)
      | (simp only [opd_same h.1, opd_same h.2]; done)
theorem new_same {co : COp} {nx : Nat} (h : SameOn tm tm' co.sees) : newA co tm nx = newA co tm' nx := by
  cases co <;> simp only [COp.sees, sameOn_app] at h <;> simp only [newA] <;>
    first
      | rfl
      | (simp only [opd_same h]; done)
      | (simp only [fillL_same h]; done)
      | (simp only [opd_same h.1, opd_same h.2]; done)
theorem heavy_same {co : COp} {H : Hp} {nx : Nat} (h : SameOn tm tm' co.sees) : heavyA P G co tm H nx = heavyA P G co tm' H nx := by
  cases co with
  | call c xs => cases c <;> simp only [COp.sees, seeC, sameOn_app] at h <;> simp only [heavyA, opd_same h.1, opds_same h.2]
  | range b x => cases b <;> simp only [COp.sees] at h <;> simp only [heavyA, opd_same h]
  | next b x => cases b <;> simp only [COp.sees] at h <;> simp only [heavyA, opd_same h]
  | _ =>
    simp only [COp.sees, sameOn_app] at h
    simp only [heavyA] <;>
    first
      | rfl
      | (simp only [opds_same h]; done)
      | (simp only [opd_same h.1, opds_same h.2]; done)
      | (simp only [opd_same h.1, opd_same h.2]; done)
      | (simp only [opd_same h.1, opd_same h.2.1, opd_same h.2.2]; done)
theorem guard_same {g : Option (Nat × Bool)} (h : SameOn tm tm' (seeG g)) : holdsG tm g = holdsG tm' g := by
  cases g with
  | none => rfl
  | some g => obtain ⟨d, b⟩ := g; simp only [holdsG, h d (by simp [seeG])]

theorem sameO_eq {a b : Option Int} (h : sameO a b = true) : a = b := by
  cases a <;> cases b <;> first | rfl | (cases h; done) | skip
  simp only [sameO, ieq_eq, beq_iff_eq] at h; rw [h]
theorem sameAV_eq : ∀ {d : Nat} {x y : AV}, sameAV d x y = true → x = y := by
  intro d
  induction d with
  | zero => intro x y h; cases h
  | succ d ih =>
    intro x y h
    have bq : ∀ {a b : Nat}, Nat.beq a b = true → a = b := fun h => Nat.eq_of_beq_eq_true h
    unfold sameAV at h
    split at h
    · simp only [beq_iff_eq] at h; rw [h]
    · simp only [Bool.and_eq_true, ieq_eq, beq_iff_eq] at h; rw [kcode_inj h.1, h.2]
    · rw [natsEq_eq, beq_iff_eq] at h; rw [h]
    · rfl
    · rfl
    · rfl
    · rfl
    · rfl
    · rfl
    · rfl
    · rfl
    · simp only [Bool.and_eq_true] at h; rw [sameO_eq h.1, sameO_eq h.2]
    · simp only [Bool.and_eq_true] at h; rw [bq h.1, bq h.2]
    · rename_i i o n c j q m d'
      simp only [Bool.and_eq_true] at h
      obtain ⟨⟨⟨h1, h2⟩, h3⟩, h4⟩ := h
      rw [bq h1, bq h2, bq h3]
      congr 1
      revert h4
      cases c <;> cases d' <;> intro h4 <;> first | rfl | (cases h4; done) | (rw [bq h4])
    · rw [bq h]
    · simp only [Bool.and_eq_true] at h; rw [bq h.1, ih h.2]
    · simp only [Bool.and_eq_true] at h; rw [ih h.1, ih h.2]
    · rw [ih h]
    · rw [ih h]
    · cases h
end Go.Ev

namespace Go.Ev
variable {P : Program} {G N : Nat} {ops : Array Oper}

/-! ### sets of places -/
theorem bit_eq (s i : Nat) : bit s i = Nat.testBit s i := by
  unfold bit
  rw [Nat.testBit_eq_decide_div_mod_eq]
  have : Nat.mod (Nat.div s (Nat.pow 2 i)) 2 = s / 2 ^ i % 2 := rfl
  rw [this]
  cases h : Nat.beq (s / 2 ^ i % 2) 1
  · have : ¬ (s / 2 ^ i % 2 = 1) := fun e => by rw [e] at h; cases h
    simp [this]
  · simp [Nat.eq_of_beq_eq_true h]
theorem bit_or (s t i : Nat) : bit (Nat.lor s t) i = (bit s i || bit t i) := by
  rw [bit_eq, bit_eq, bit_eq]; exact Nat.testBit_or s t i
theorem bit_pow {j i : Nat} (h : bit (Nat.pow 2 j) i = true) : j = i := by
  rw [bit_eq] at h
  have : Nat.testBit (2 ^ j) i = true := h
  rw [Nat.testBit_two_pow] at this
  simpa using this
theorem bit_zero (i : Nat) : bit 0 i = false := by rw [bit_eq]; exact Nat.zero_testBit i
theorem bz_true {c t e : Bool} : bz c t e = true ↔ (c = true ∧ t = true) ∨ (c = false ∧ e = true) := by cases c <;> simp [bz]
theorem bn_true {c : Bool} : bn c = true ↔ c = false := by cases c <;> simp [bn]
theorem bitsOf_mem : ∀ {l : List Nat} {d : Nat}, bit (bitsOf l) d = true ↔ d ∈ l
  | [], d => by
    have : bitsOf [] = 0 := rfl
    rw [this, bit_zero]; simp
  | a :: l, d => by
    have : bitsOf (a :: l) = Nat.lor (Nat.pow 2 a) (bitsOf l) := rfl
    rw [this, bit_or, Bool.or_eq_true, List.mem_cons, bitsOf_mem (l := l)]
    constructor
    · rintro (h | h); exact .inl (bit_pow h).symm; exact .inr h
    · rintro (h | h); exact .inl (by rw [h]; exact bit_self a); exact .inr h
where bit_self (a : Nat) : bit (Nat.pow 2 a) a = true := by rw [bit_eq]; show Nat.testBit (2 ^ a) a = true; rw [Nat.testBit_two_pow]; simp
theorem apartB_spec {a b : Nat} (h : apartB a b = true) (d : Nat) : ¬ (bit a d = true ∧ bit b d = true) := by
  rintro ⟨h1, h2⟩
  have e : Nat.land a b = 0 := Nat.eq_of_beq_eq_true h
  rw [bit_eq] at h1 h2
  have : Nat.testBit (a &&& b) d = true := by rw [Nat.testBit_and, h1, h2]; rfl
  have e' : a &&& b = 0 := e
  rw [e'] at this
  simp at this
theorem dBit_mem {o : Option Nat} {d : Nat} (h : o = some d) : bit (dBit o) d = true := by subst h; exact bitsOf_mem.bit_self d
theorem land_sub {a b d : Nat} (h : Nat.beq (Nat.land a b) a = true) (hd : bit a d = true) : bit b d = true := by
  have e : a &&& b = a := Nat.eq_of_beq_eq_true h
  rw [bit_eq] at hd ⊢
  rw [← e, Nat.testBit_and, Bool.and_eq_true] at hd
  exact hd.2

def Clo (ops : Array Oper) (S : Nat → Prop) : Prop := ∀ i o, ops[i]? = some o → S i → ∀ e ∈ anyEdges o, S e
/-- k stands ahead of what waits for these -/
def Pre (ops : Array Oper) (ed : List Nat) (k : Nat) : Prop := ∀ S : Nat → Prop, Clo ops S → (∀ e ∈ ed, S e) → S k

def Good (P : Program) (G N : Nat) (ops : Array Oper) (p : Pd) : Prop :=
  ∃ o, ops[p.i]? = some o ∧ Fits P G N ops o p.ce ∧ ∀ k, bit p.pre k = true → Pre ops (anyEdges o) k

theorem preGo_ok {ed : List Nat} : ∀ {pl : List Pd}, (∀ p ∈ pl, Good P G N ops p) → ∀ {s : Nat}, (∀ k, bit s k = true → Pre ops ed k) → ∀ {k : Nat}, bit (preGo pl s) k = true → Pre ops ed k
  | [], _, s, hs, k, h => hs k h
  | p :: pl, hg, s, hs, k, h => by
    have e : preGo (p :: pl) s = preGo pl (Bool.rec (motive := fun _ => Nat) s (Nat.lor s p.pre) (bit s p.i)) := rfl
    rw [e] at h
    refine preGo_ok (fun q hq => hg q (List.mem_cons_of_mem _ hq)) (fun k hk => ?_) h
    cases hb : bit s p.i with
    | false => rw [hb] at hk; exact hs k hk
    | true =>
      rw [hb] at hk
      have hk : bit (Nat.lor s p.pre) k = true := hk
      rw [bit_or, Bool.or_eq_true] at hk
      rcases hk with hk | hk
      · exact hs k hk
      · intro S hc he
        obtain ⟨o, h1, h2, h3⟩ := hg p (List.mem_cons_self ..)
        exact h3 k hk S hc (hc p.i o h1 (hs p.i hb S hc he))
theorem preOf_ok {pl : List Pd} (hg : ∀ p ∈ pl, Good P G N ops p) {ed : List Nat} {k : Nat} (h : bit (preOf pl ed) k = true) : Pre ops ed k :=
  preGo_ok hg (fun k hk S _ he => he k (bitsOf_mem.1 hk)) h

theorem dnOf_mem : ∀ {pl : List Pd} {j : Nat}, bit (dnOf pl) j = true ↔ ∃ p ∈ pl, p.i = j
  | [], j => by
    have : dnOf [] = 0 := rfl
    rw [this, bit_zero]; simp
  | p :: pl, j => by
    have e : dnOf (p :: pl) = Nat.lor (Nat.pow 2 p.i) (dnOf pl) := rfl
    rw [e, bit_or, Bool.or_eq_true, dnOf_mem (pl := pl)]
    constructor
    · rintro (h | ⟨q, h1, h2⟩)
      · exact ⟨p, List.mem_cons_self .., bit_pow h⟩
      · exact ⟨q, List.mem_cons_of_mem _ h1, h2⟩
    · rintro ⟨q, h1, h2⟩
      rcases List.mem_cons.1 h1 with rfl | h1
      · exact .inl (by rw [← h2]; exact bitsOf_mem.bit_self _)
      · exact .inr ⟨q, h1, h2⟩
theorem okAll_mem {x : Pl} {pre sx dx : Nat} : ∀ {pl : List Pd}, okAll pl x pre sx dx = true → ∀ p ∈ pl, okOne p x pre sx dx = true
  | [], _, p, hp => by cases hp
  | q :: pl, h, p, hp => by
    have e : okAll (q :: pl) x pre sx dx = bz (okOne q x pre sx dx) (okAll pl x pre sx dx) false := rfl
    rw [e, bz_true] at h
    rcases h with ⟨h1, h2⟩ | ⟨_, h2⟩
    · rcases List.mem_cons.1 hp with rfl | hp
      · exact h1
      · exact okAll_mem h2 p hp
    · cases h2

structure Placed (pl : List Pd) (x : Pl) (pre : Nat) : Prop where
  new : ∀ p ∈ pl, p.i ≠ x.i
  ed : ∀ e ∈ x.ed, ∃ p ∈ pl, p.i = e
  last : ∀ k, lastHv pl = some k → bit pre k = true
  sees : ∀ p ∈ pl, ∀ d, p.ce.dst = some d → d ∈ x.ce.sees → bit pre p.i = true
  dst : ∀ p ∈ pl, ∀ d, x.ce.dst = some d → p.ce.dst ≠ some d ∧ (p.hv = false → d ∈ p.ce.sees → x.hv = true ∧ bit pre p.i = true)
  self : x.hv = false → ∀ d, x.ce.dst = some d → d ∉ x.ce.sees
  lt : x.hv = false → x.ce.kd ≠ 3
  hk : x.hv = true → x.ce.kd ≠ 2
  rd : x.ce.kd = 1 → ∃ d, x.ce.dst = some d

theorem okPl_spec {pl : List Pd} {x : Pl} {pre : Nat} (h : okPl pl x pre = true) : Placed pl x pre := by
  simp only [okPl, bz_true, bn_true, Bool.false_eq_true, and_false, or_false, and_true] at h
  simp only [reduceCtorEq, and_false, false_or] at h
  obtain ⟨h1, h2, h3, h4, h6, h7, h8⟩ := h
  have h4 := okAll_mem h4
  simp only [okOne, bz_true, Bool.false_eq_true, and_false, or_false, and_true] at h4
  refine ⟨fun p hp e => ?_, fun e he => ?_, fun k hk => ?_, fun p hp d hd hs => ?_, fun p hp d hd => ⟨fun he => ?_, fun hh hm => ?_⟩, fun hh d hd hm => ?_, fun hh e => ?_, fun hh e => ?_, fun hk => ?_⟩
  · rw [dnOf_mem.2 ⟨p, hp, e⟩] at h1; cases h1
  · exact dnOf_mem.1 (land_sub h2 (bitsOf_mem.2 he))
  · rw [hk] at h3; exact h3
  · rcases (h4 p hp).1 with h | h
    · exact absurd ⟨bitsOf_mem.2 hs, dBit_mem hd⟩ (apartB_spec h d)
    · exact h.2
  · exact absurd ⟨dBit_mem he, dBit_mem hd⟩ (apartB_spec (h4 p hp).2.1 d)
  · have q := (h4 p hp).2.2
    rw [hh] at q
    simp only [Bool.false_eq_true, false_or, true_and] at q
    rcases q with q | q
    · exact absurd ⟨bitsOf_mem.2 hm, dBit_mem hd⟩ (apartB_spec q d)
    · exact q.2
  · rw [hh] at h6
    simp only [Bool.false_eq_true, false_or, true_and] at h6
    exact absurd ⟨bitsOf_mem.2 hm, dBit_mem hd⟩ (apartB_spec h6 d)
  · rw [hh, e] at h8; simp at h8
  · rw [hh, e] at h8; simp at h8
  · rw [hk] at h7
    cases hd : x.ce.dst with
    | none => rw [hd] at h7; simp [isSomeN] at h7
    | some d => exact ⟨d, rfl⟩

theorem draws_cons {pl : List Pd} {x : Pl} {rest : List Pl} {l : List CE} (h : draws pl (x :: rest) = some l) :
    ∃ l', okPl pl x (preOf pl x.ed) = true ∧ draws (⟨x.i, x.ce, preOf pl x.ed, x.hv⟩ :: pl) rest = some l' ∧ l = withChk pl (preOf pl x.ed) x.ce :: l' := by
  simp only [draws] at h
  cases hb : okPl pl x (preOf pl x.ed) <;> rw [hb] at h
  · cases h
  · simp only [cond_true] at h
    split at h
    · rename_i l' e; cases h; exact ⟨l', rfl, e, rfl⟩
    · cases h

/-- each waits for those behind it alone -/
def Tails (ops : Array Oper) : List Pd → Prop
  | [] => True
  | p :: pl => (∀ o, ops[p.i]? = some o → ∀ e ∈ anyEdges o, ∃ q ∈ pl, q.i = e) ∧ Tails ops pl

structure Pls (P : Program) (G N : Nat) (ops : Array Oper) (pl : List Pd) : Prop where
  good : ∀ p ∈ pl, Good P G N ops p
  see : ∀ p ∈ pl, p.hv = false → ∀ q ∈ pl, q.hv = false → ∀ d, q.ce.dst = some d → d ∈ p.ce.sees → bit p.pre q.i = true
  tail : Tails ops pl
  rd : ∀ p ∈ pl, p.ce.kd = 1 → ∃ d, p.ce.dst = some d

structure RGood (P : Program) (G N : Nat) (ops : Array Oper) (x : Pl) : Prop where
  op : ∃ o, ops[x.i]? = some o ∧ Fits P G N ops o x.ce ∧ x.ed = anyEdges o
  chk : x.ce.chk = []

theorem Pls.cons {pl : List Pd} (h : Pls P G N ops pl) {x : Pl} (hx : RGood P G N ops x) (hp : Placed pl x (preOf pl x.ed)) : Pls P G N ops (⟨x.i, x.ce, preOf pl x.ed, x.hv⟩ :: pl) := by
  obtain ⟨o, h1, h2, h3⟩ := hx.op
  refine ⟨?_, ?_, ⟨?_, h.tail⟩, fun p hm hk => ?_⟩
  · intro p hm
    rcases List.mem_cons.1 hm with rfl | hm
    · exact ⟨o, h1, h2, fun k hk => by rw [h3] at hk; exact preOf_ok h.good hk⟩
    · exact h.good p hm
  · intro p hm hl q hq hql d hd hs
    rcases List.mem_cons.1 hm with rfl | hm
    · rcases List.mem_cons.1 hq with rfl | hq
      · exact absurd hs (hp.self hl d hd)
      · exact hp.sees q hq d hd hs
    · rcases List.mem_cons.1 hq with rfl | hq
      · have := ((hp.dst p hm d hd).2 hl hs).1
        simp only at hql
        rw [this] at hql; cases hql
      · exact h.see p hm hl q hq hql d hd hs
  · intro o' h1' e he
    rw [h1] at h1'; cases h1'
    exact hp.ed e (h3 ▸ he)
  · rcases List.mem_cons.1 hm with rfl | hm
    · exact hp.rd hk
    · exact h.rd p hm hk

/-- what is ready is not behind an operation that acts and is not done -/
theorem behind {S : Nat → Prop} (hc : Clo ops S) : ∀ {rest : List Pl} {pl : List Pd} {l : List CE} {k : Nat}, Pls P G N ops pl → (∀ x ∈ rest, RGood P G N ops x) → draws pl rest = some l → lastHv pl = some k →
    ∀ x ∈ rest, (∀ e ∈ x.ed, S e) → S k
  | [], pl, l, k, _, _, _, _, x, hx, _ => by cases hx
  | y :: rest, pl, l, k, hp, hr, hd, hk, x, hx, he => by
    obtain ⟨l', h1, h2, rfl⟩ := draws_cons hd
    have hs := okPl_spec h1
    have hy := hr y (List.mem_cons_self ..)
    rcases List.mem_cons.1 hx with rfl | hx
    · exact preOf_ok hp.good (hs.last k hk) S hc he
    · have hp' := hp.cons hy hs
      have hr' : ∀ x ∈ rest, RGood P G N ops x := fun z hz => hr z (List.mem_cons_of_mem _ hz)
      cases hv : y.hv with
      | true =>
        have : S y.i := behind hc (k := y.i) hp' hr' h2 (by show Bool.rec (motive := fun _ => Option Nat) _ _ y.hv = _; rw [hv]) x hx he
        obtain ⟨o, q1, q2, q3⟩ := hy.op
        exact preOf_ok hp.good (hs.last k hk) S hc (fun e hm => hc y.i o q1 this e (q3 ▸ hm))
      | false => exact behind hc (k := k) hp' hr' h2 (by show Bool.rec (motive := fun _ => Option Nat) _ _ y.hv = _; rw [hv]; exact hk) x hx he
termination_by structural rest => rest

/-- the first one that is not done may be done -/
theorem some_ready {S : Nat → Prop} (hd : ∀ j, S j ∨ ¬ S j) : ∀ {pl : List Pd}, (∀ p ∈ pl, Good P G N ops p) → Tails ops pl → (∃ q ∈ pl, ¬ S q.i) → ∃ q ∈ pl, ¬ S q.i ∧ ∀ o, ops[q.i]? = some o → ∀ e ∈ anyEdges o, S e
  | [], _, _, ⟨q, hq, _⟩ => by cases hq
  | p :: pl, hg, ht, ⟨q, hq, hn⟩ => by
    by_cases h : ∃ q ∈ pl, ¬ S q.i
    · obtain ⟨q, h1, h2, h3⟩ := some_ready hd (fun x hx => hg x (List.mem_cons_of_mem _ hx)) ht.2 h
      exact ⟨q, List.mem_cons_of_mem _ h1, h2, h3⟩
    · have hall : ∀ q ∈ pl, S q.i := fun q hq => (hd q.i).resolve_right (fun hn => h ⟨q, hq, hn⟩)
      rcases List.mem_cons.1 hq with rfl | hq
      · exact ⟨q, List.mem_cons_self .., hn, fun o ho e he => by obtain ⟨r, r1, r2⟩ := ht.1 o ho e he; exact r2 ▸ hall r r1⟩
      · exact absurd (hall q hq) hn
end Go.Ev

namespace Go.Ev
variable {P : Program} {G N : Nat} {ops : Array Oper} {env : Env} {tm tm' : T AV} {H H' : Hp} {nx nx' : Nat} {ds : DS} {a : Act} {w : World}

/-! ### memory: what isn't told of yet -/
theorem SR.more (h : SR env H nx w) (hl : nx ≤ nx') (he : ∀ id, id < nx → H'.get id = H.get id) (ht : ∀ id, nx' ≤ id → H'.get id = none) : SR env H' nx' w := by
  refine ⟨fun id L o hL ho => ?_, fun id L hL => ?_, fun id id' L L' o o' hL hL' ho ho' l l' e => ?_, ht⟩
  · rw [he id (h.bnd id L hL).2] at ho; exact h.obj id L o hL ho
  · have := h.bnd id L hL; exact ⟨this.1, by omega⟩
  · rw [he id (h.bnd id L hL).2] at ho; rw [he id' (h.bnd id' L' hL').2] at ho'
    exact h.inj id id' L L' o o' hL hL' ho ho' l l' e

theorem Tr.more {env0 : Env} {H0 : Hp} {nx0 : Nat} {w0 : World} (h : Tr G env0 H0 nx0 w0 env H nx w) (hl : nx ≤ nx') (he : ∀ id, id < nx → H'.get id = H.get id) : Tr G env0 H0 nx0 w0 env H' nx' w :=
  ⟨h.le, Nat.le_trans h.nxle hl, h.news, fun id hid hn => by rw [he id (Nat.lt_of_lt_of_le hid h.nxle), h.un id hid hn], h.size, h.frame, h.os, h.tape, h.output⟩

/-- a block is made for what is told already -/
theorem SR.late (h : SR env H nx w) {id : Nat} {o : AO} {ob : Obj} {w' : World} (L : Loc) (hL : L.b = w.heap.size) (hid : id < nx) (hn : env id = none) (hq : H.get id = some o)
    (hw : w'.heap = w.heap.push ob) (h1 : w'.os = w.os) (h2 : w'.tape = w.tape) (h3 : w'.output = w.output) (ho : ∀ env', Le env env' → env' id = some L → OR env' L o ob)
    {env0 : Env} {H0 : Hp} {nx0 : Nat} {w0 : World} (ht : Tr G env0 H0 nx0 w0 env H nx w) (h0 : nx0 ≤ id) :
    ∃ env', env' id = some L ∧ SR env' H nx w' ∧ Tr G env0 H0 nx0 w0 env' H nx w' ∧ Le env env' ∧ (∀ j, j ≠ id → env' j = env j) := by
  have hle : Le env (fun i => if i = id then some L else env i) := fun j K hK => by
    have : j ≠ id := fun e => by subst e; rw [hn] at hK; cases hK
    simp [this, hK]
  refine ⟨fun i => if i = id then some L else env i, by simp, ⟨?_, ?_, ?_, h.top⟩, ⟨ht.le.trans hle, ht.nxle, ?_, ht.un, ?_, ?_, h1.trans ht.os, h2.trans ht.tape, h3.trans ht.output⟩, hle, fun j hj => by simp [hj]⟩
  · intro j K q he hq'
    by_cases e : j = id
    · subst e
      simp at he; subst he
      rw [hq] at hq'; cases hq'
      exact ⟨ob, by rw [hw, hL]; simp, ho _ hle (by simp)⟩
    · simp [e] at he
      obtain ⟨ob', a, b⟩ := h.obj j K q he hq'
      refine ⟨ob', ?_, b.ext hle⟩
      rw [hw, Array.getElem?_push, if_neg (by have := (h.bnd j K he).1; omega), a]
  · intro j K he
    by_cases e : j = id
    · subst e; simp at he; subst he; exact ⟨by rw [hw, hL]; simp, hid⟩
    · simp [e] at he; have := h.bnd j K he; exact ⟨by rw [hw]; simp; omega, this.2⟩
  · intro j j' K K' q q' he he' hq1 hq2 lq lq' hb
    by_cases e : j = id
    · by_cases e' : j' = id
      · rw [e, e']
      · simp [e] at he; simp [e'] at he'; have := (h.bnd j' K' he').1; subst he; omega
    · simp [e] at he
      by_cases e' : j' = id
      · simp [e'] at he'; have := (h.bnd j K he).1; subst he'; omega
      · simp [e'] at he'
        exact h.inj j j' K K' q q' he he' hq1 hq2 lq lq' hb
  · intro j K he
    by_cases e : j = id
    · subst e; simp at he; subst he; exact .inr ⟨h0, .inl (by have := ht.size; omega)⟩
    · simp [e] at he; exact ht.news j K he
  · have := ht.size; rw [hw]; simp; omega
  · intro b hb hnn; rw [hw, Array.getElem?_push, if_neg (by have := ht.size; omega)]; exact ht.frame b hb hnn

/-- a read sees what is there -/
theorem rd_ext (he : ∀ id o, H.get id = some o → H'.get id = some o) {id off n : Nat} {l : AV} (h : rdAt H id off n = some l) : rdAt H' id off n = some l := by
  unfold rdAt at h ⊢
  split at h
  · rename_i c _ _ _ e; rw [he _ _ e]; exact h
  · cases h
theorem read_ext (he : ∀ id o, H.get id = some o → H'.get id = some o) {co : COp} {v : AV} (h : readA P co tm H = some v) : readA P co tm H' = some v := by
  cases co with
  | load x =>
    simp only [readA] at h ⊢
    split at h
    · rename_i id off e
      split at h
      · rename_i c _ _ _ e1; rw [he _ _ e1]; exact h
      · cases h
    · cases h
  | loads n x =>
    simp only [readA] at h ⊢
    split at h
    · rename_i id off e
      split at h
      · rename_i l e1; rw [rd_ext he e1]; exact h
      · cases h
    · cases h
  | slice s x lo hi mx =>
    simp only [readA] at h ⊢
    split at h
    · exact h
    · exact h
    · exact h
    · rename_i id off len e
      split at h
      · rename_i n sz _ a b e1 e2 e3; rw [he _ _ e1]; simp only [e2, e3]; exact h
      · cases h
    · cases h
  | len k x =>
    simp only [readA] at h ⊢
    split at h <;> first | exact h | skip
    rename_i id e
    split at h
    · rename_i es c e1; rw [he _ _ e1]; exact h
    · cases h
  | lenC n x => exact h
  | cap x =>
    simp only [readA] at h ⊢
    split at h <;> first | exact h | skip
    rename_i id off len e
    split at h
    · rename_i n sz _ e1; rw [he _ _ e1]; exact h
    · cases h
  | lookup q z ok m k =>
    simp only [readA] at h ⊢
    split at h
    · rename_i m' k' e1 e2
      cases m' <;> first | exact h | skip
      rename_i id
      simp only at h ⊢
      cases hq : H.get id with
      | none => rw [hq] at h; cases h
      | some o => rw [he _ _ hq]; rw [hq] at h; exact h
    · cases h
  | toStr x => exact h
  | bytesStr x =>
    simp only [readA] at h ⊢
    split at h
    · exact h
    · rename_i id off len _ e
      split at h
      · rename_i l e1; rw [rd_ext he e1]; exact h
      · cases h
    · cases h
  | toUp x =>
    simp only [readA] at h ⊢
    split at h
    · exact h
    · rename_i id off e
      split at h
      · rename_i n _ e1; rw [he _ _ e1]; exact h
      · cases h
    · cases h
  | fromUp u s x =>
    simp only [readA] at h ⊢
    split at h
    · exact h
    · rename_i id e
      split at h
      · rename_i n _ e1; rw [he _ _ e1]; exact h
      · cases h
    · cases h
  | sdata x =>
    simp only [readA] at h ⊢
    split at h
    · exact h
    · rename_i id off _ e
      split at h
      · rename_i n sz _ e1; rw [he _ _ e1]; exact h
      · cases h
    · exact h
    · cases h
  | _ => exact absurd h (by simp [readA])

/-! ### operations, one by one -/
theorem opA_light {ih : Nat → AV → Hp → Nat → VRes} {ce : CE} {k : Kont} {x : Nat} {tm1 : T AV} {H1 : Hp} {nx1 : Nat} {ds1 : DS} (h : opA P G ih ce tm H nx ds k = .ok x tm1 H1 nx1 ds1) (hk : ce.kd = 0 ∨ ce.kd = 1 ∨ ce.kd = 2) :
    ∃ b v tm' H' nx', holdsG tm ce.guard = some b ∧ putD tm ce.dst v = some tm' ∧ k tm' H' nx' ds = .ok x tm1 H1 nx1 ds1 ∧
      (b = false → v = undefA ∧ H' = H ∧ nx' = nx) ∧
      (b = true → (ce.kd = 0 ∧ pureA P ce.co tm = some v ∧ H' = H ∧ nx' = nx) ∨ (ce.kd = 1 ∧ readA P ce.co tm H = some v ∧ H' = H ∧ nx' = nx) ∨
        (ce.kd = 2 ∧ ∃ o, newA ce.co tm nx = some (v, o) ∧ H.put nx o = some H' ∧ nx' = nx + 1)) := by
  cases hg : holdsG tm ce.guard with
  | none => unfold opA at h; rw [hg] at h; cases h
  | some b =>
    cases b with
    | false =>
      have h : (match putD tm ce.dst undefA with | some tm => k tm H nx ds | none => .no) = .ok x tm1 H1 nx1 ds1 := by unfold opA at h; rw [hg] at h; cases hp : putD tm ce.dst undefA <;> rw [hp] at h <;> exact h
      split at h
      · rename_i tm' hp; exact ⟨false, undefA, tm', H, nx, rfl, hp, h, fun _ => ⟨rfl, rfl, rfl⟩, fun e => by cases e⟩
      · cases h
    | true =>
      rcases hk with hkd | hkd | hkd
      · have h : (match pureA P ce.co tm with | some v => (match putD tm ce.dst v with | some tm => k tm H nx ds | none => .no) | none => .no) = .ok x tm1 H1 nx1 ds1 := by
          unfold opA at h; rw [hg, hkd] at h
          cases hv : pureA P ce.co tm with
          | none => rw [hv] at h; exact h
          | some v => rw [hv] at h; cases hp : putD tm ce.dst v <;> simp only [hp] at h ⊢ <;> exact h
        split at h
        · rename_i v hv
          split at h
          · rename_i tm' hp; exact ⟨true, v, tm', H, nx, rfl, hp, h, (fun e => by cases e), fun _ => .inl ⟨hkd, hv, rfl, rfl⟩⟩
          · cases h
        · cases h
      · have h : (match readA P ce.co tm H with | some v => (match putD tm ce.dst v with | some tm => k tm H nx ds | none => .no) | none => .no) = .ok x tm1 H1 nx1 ds1 := by
          unfold opA at h; rw [hg, hkd] at h
          cases hv : readA P ce.co tm H with
          | none => rw [hv] at h; exact h
          | some v => rw [hv] at h; cases hp : putD tm ce.dst v <;> simp only [hp] at h ⊢ <;> exact h
        split at h
        · rename_i v hv
          split at h
          · rename_i tm' hp; exact ⟨true, v, tm', H, nx, rfl, hp, h, (fun e => by cases e), fun _ => .inr (.inl ⟨hkd, hv, rfl, rfl⟩)⟩
          · cases h
        · cases h
      · have h : (match newA ce.co tm nx with
              | none => ER.no
              | some (v, o) => (match H.put nx o, putD tm ce.dst v with | some H, some tm => k tm H (Nat.succ nx) ds | _, _ => .no)) = .ok x tm1 H1 nx1 ds1 := by unfold opA at h; rw [hg, hkd] at h; exact h
        split at h
        · cases h
        · rename_i v o hv
          split at h
          · rename_i H' tm' hH hp; exact ⟨true, v, tm', H', nx + 1, rfl, hp, h, (fun e => by cases e), fun _ => .inr (.inr ⟨hkd, o, hv, hH, rfl⟩)⟩
          · cases h

theorem opA_pure {ih : Nat → AV → Hp → Nat → VRes} {ce : CE} {k : Kont} (hg : holdsG tm ce.guard = some true) (hkd : ce.kd = 0) :
    opA P G ih ce tm H nx ds k = (match pureA P ce.co tm with | some v => (match putD tm ce.dst v with | some tm => k tm H nx ds | none => .no) | none => .no) := by
  unfold opA
  rw [hg, hkd]
  cases pureA P ce.co tm with
  | none => rfl
  | some v => cases hp : putD tm ce.dst v <;> simp only [hp] <;> rfl
theorem opA_read {ih : Nat → AV → Hp → Nat → VRes} {ce : CE} {k : Kont} (hg : holdsG tm ce.guard = some true) (hkd : ce.kd = 1) :
    opA P G ih ce tm H nx ds k = (match readA P ce.co tm H with | some v => (match putD tm ce.dst v with | some tm => k tm H nx ds | none => .no) | none => .no) := by
  unfold opA
  rw [hg, hkd]
  cases readA P ce.co tm H with
  | none => rfl
  | some v => cases hp : putD tm ce.dst v <;> simp only [hp] <;> rfl
/-- one that acts, whose guard holds -/
theorem opA_acts {ih : Nat → AV → Hp → Nat → VRes} {ce : CE} {k : Kont} (hg : holdsG tm ce.guard = some true) (hkd : ce.kd = 3) :
    opA P G ih ce tm H nx ds k = (match heavyA P G ce.co tm H nx with
              | .no => ER.no
              | .v a H nx => (match putD tm ce.dst a with | some tm => bif chkA P tm H ce.chk then k tm H nx ds else ER.no | none => ER.no)
              | .call f args => (match ih f args H nx with
                | .no => ER.no
                | .ok a H nx => (match putD tm ce.dst a with | some tm => bif chkA P tm H ce.chk then k tm H nx ds else ER.no | none => ER.no))
              | .defer f args => (match putD tm ce.dst undefA with | some tm => bif chkA P tm H ce.chk then k tm H nx ((f, args) :: ds) else ER.no | none => ER.no)) := by
  unfold opA
  rw [hg, hkd]
  rfl
theorem opA_not {ih : Nat → AV → Hp → Nat → VRes} {ce : CE} {k : Kont} (hg : holdsG tm ce.guard = some false) :
    opA P G ih ce tm H nx ds k = (match putD tm ce.dst undefA with | some tm => k tm H nx ds | none => .no) := by
  unfold opA
  rw [hg]
  cases putD tm ce.dst undefA <;> rfl

/-- one that acts, whose guard holds: what it leaves, whatever stands elsewhere -/
theorem opA_hv3 {ih : Nat → AV → Hp → Nat → VRes} {ce : CE} {k : Kont} {x : Nat} {tm1 : T AV} {H1 : Hp} {nx1 : Nat} {ds1 : DS} (h : opA P G ih ce tm H nx ds k = .ok x tm1 H1 nx1 ds1) (hg : holdsG tm ce.guard = some true) (hkd : ce.kd = 3)
    (key1 : ∀ {tmS : T AV}, SameOn tmS tm ce.sees → holdsG tmS ce.guard = holdsG tm ce.guard) (key2 : ∀ {tmS : T AV}, SameOn tmS tm ce.sees → heavyA P G ce.co tmS H nx = heavyA P G ce.co tm H nx) :
    ∃ v tm' H' nx' ds', putD tm ce.dst v = some tm' ∧ k tm' H' nx' ds' = .ok x tm1 H1 nx1 ds1 ∧ ((ce.kd = 3 ∧ chkA P tm' H' ce.chk = true) ∨ (H' = H ∧ nx' = nx)) ∧
      ∀ (c2 : CE) tmS tmS' (k2 : Kont), c2.dst = ce.dst → c2.guard = ce.guard → c2.kd = ce.kd → c2.co = ce.co → c2.chk = [] → SameOn tmS tm ce.sees → putD tmS ce.dst v = some tmS' → opA P G ih c2 tmS H nx ds k2 = k2 tmS' H' nx' ds' := by
  have h : (match heavyA P G ce.co tm H nx with
          | .no => ER.no
          | .v a H nx => (match putD tm ce.dst a with | some tm => bif chkA P tm H ce.chk then k tm H nx ds else ER.no | none => ER.no)
          | .call f args => (match ih f args H nx with
            | .no => ER.no
            | .ok a H nx => (match putD tm ce.dst a with | some tm => bif chkA P tm H ce.chk then k tm H nx ds else ER.no | none => ER.no))
          | .defer f args => (match putD tm ce.dst undefA with | some tm => bif chkA P tm H ce.chk then k tm H nx ((f, args) :: ds) else ER.no | none => ER.no)) = ER.ok x tm1 H1 nx1 ds1 := by unfold opA at h; rw [hg, hkd] at h; exact h
  split at h
  · cases h
  · rename_i v H' nx' hv
    split at h
    · rename_i tm' hp
      cases hck : chkA P tm' H' ce.chk <;> rw [hck] at h
      · cases h
      · refine ⟨v, tm', H', nx', ds, hp, h, .inl ⟨hkd, hck⟩, ?_⟩
        intro c2 tmS tmS' k2 e1 e2 e3 e4 e5 hs hp2
        rw [opA_acts (by rw [e2, key1 hs, hg]) (by rw [e3, hkd]), e4]
        simp only [e1, key2 hs, hv, hp2, e5, chkA, cond_true]
    · cases h
  · rename_i f args hcall
    split at h
    · cases h
    · rename_i v H' nx' hv
      split at h
      · rename_i tm' hp
        cases hck : chkA P tm' H' ce.chk <;> rw [hck] at h
        · cases h
        · refine ⟨v, tm', H', nx', ds, hp, h, .inl ⟨hkd, hck⟩, ?_⟩
          intro c2 tmS tmS' k2 e1 e2 e3 e4 e5 hs hp2
          rw [opA_acts (by rw [e2, key1 hs, hg]) (by rw [e3, hkd]), e4]
          simp only [e1, key2 hs, hcall, hv, hp2, e5, chkA, cond_true]
      · cases h
  · rename_i f args hd
    split at h
    · rename_i tm' hp
      cases hck : chkA P tm' H ce.chk <;> rw [hck] at h
      · cases h
      · refine ⟨undefA, tm', H, nx, (f, args) :: ds, hp, h, .inl ⟨hkd, hck⟩, ?_⟩
        intro c2 tmS tmS' k2 e1 e2 e3 e4 e5 hs hp2
        rw [opA_acts (by rw [e2, key1 hs, hg]) (by rw [e3, hkd]), e4]
        simp only [e1, key2 hs, hd, hp2, e5, chkA, cond_true]
    · cases h

/-- one that acts: what it leaves, whatever stands elsewhere -/
theorem opA_hv {ih : Nat → AV → Hp → Nat → VRes} {ce : CE} {k : Kont} {x : Nat} {tm1 : T AV} {H1 : Hp} {nx1 : Nat} {ds1 : DS} (h : opA P G ih ce tm H nx ds k = .ok x tm1 H1 nx1 ds1) (hkd : ce.kd = 3 ∨ ce.kd = 0 ∨ ce.kd = 1) :
    ∃ v tm' H' nx' ds', putD tm ce.dst v = some tm' ∧ k tm' H' nx' ds' = .ok x tm1 H1 nx1 ds1 ∧ ((ce.kd = 3 ∧ chkA P tm' H' ce.chk = true) ∨ (H' = H ∧ nx' = nx)) ∧
      ∀ (c2 : CE) tmS tmS' (k2 : Kont), c2.dst = ce.dst → c2.guard = ce.guard → c2.kd = ce.kd → c2.co = ce.co → c2.chk = [] → SameOn tmS tm ce.sees → putD tmS ce.dst v = some tmS' → opA P G ih c2 tmS H nx ds k2 = k2 tmS' H' nx' ds' := by
  have key : ∀ {tmS : T AV}, SameOn tmS tm ce.sees → holdsG tmS ce.guard = holdsG tm ce.guard ∧ heavyA P G ce.co tmS H nx = heavyA P G ce.co tm H nx := fun hs => by
    rw [CE.sees, sameOn_app] at hs
    exact ⟨guard_same hs.1, heavy_same hs.2⟩
  cases hg : holdsG tm ce.guard with
  | none => unfold opA at h; rw [hg] at h; cases h
  | some b =>
    cases b with
    | false =>
      have h : (match putD tm ce.dst undefA with | some tm => k tm H nx ds | none => .no) = .ok x tm1 H1 nx1 ds1 := by unfold opA at h; rw [hg] at h; cases hp : putD tm ce.dst undefA <;> rw [hp] at h <;> exact h
      split at h
      · rename_i tm' hp
        refine ⟨undefA, tm', H, nx, ds, hp, h, .inr ⟨rfl, rfl⟩, ?_⟩
        intro c2 tmS tmS' k2 e1 e2 e3 e4 e5 hs hp2
        rw [opA_not (by rw [e2, (key hs).1, hg]), e1, hp2]
      · cases h
    | true =>
      rcases hkd with hkd | hkd
      · exact opA_hv3 h hg hkd (fun hs => (key hs).1) (fun hs => (key hs).2)
      · obtain ⟨b, v, tm', H', nx', f1, f2, f3, f4, f5⟩ := opA_light h (by omega)
        rw [hg] at f1; cases f1
        have hH : H' = H ∧ nx' = nx := by
          rcases f5 rfl with ⟨_, _, q⟩ | ⟨_, _, q⟩ | ⟨q, _⟩
          · exact q
          · exact q
          · omega
        obtain ⟨rfl, rfl⟩ := hH
        refine ⟨v, tm', H', nx', ds, f2, f3, .inr ⟨rfl, rfl⟩, ?_⟩
        intro c2 tmS tmS' k2 e1 e2 e3 e4 e5 hs hp2
        have hg2 : holdsG tmS c2.guard = some true := by rw [e2, (key hs).1, hg]
        rw [CE.sees, sameOn_app] at hs
        rcases f5 rfl with ⟨q0, q, _⟩ | ⟨q0, q, _⟩ | ⟨q, _⟩
        · rw [opA_pure hg2 (e3.trans q0), e4, pure_same hs.2, q, e1]
          simp only [hp2]
        · rw [opA_read hg2 (e3.trans q0), e4, read_same hs.2, q, e1]
          simp only [hp2]
        · omega
end Go.Ev

namespace Go.Ev
variable {P : Program} {G N : Nat} {ops : Array Oper} {env env' : Env} {tm tm' : T AV} {H H' : Hp} {nx0 nx nx' : Nat}

abbrev Pq := Pd × Option Nat

/-- one that is told of, and not done -/
def PendOK (P : Program) (env : Env) (tm : T AV) (H : Hp) (nx0 nx : Nat) (q : Pq) : Prop :=
  ∃ b v, holdsG tm q.1.ce.guard = some b ∧ (∀ d, q.1.ce.dst = some d → tm.get d = some v) ∧ (b = false → v = undefA) ∧
    (b = true → (q.1.ce.kd = 0 ∧ pureA P q.1.ce.co tm = some v) ∨ (q.1.ce.kd = 1 ∧ readA P q.1.ce.co tm H = some v) ∨
      (q.1.ce.kd = 2 ∧ ∃ id o, q.2 = some id ∧ newA q.1.ce.co tm id = some (v, o) ∧ nx0 ≤ id ∧ id < nx ∧ env id = none ∧ H.get id = some o))

theorem PendOK.keep {q : Pq} (h : PendOK P env tm H nx0 nx q) (hs : SameOn tm' tm q.1.ce.sees) (hd : ∀ d, q.1.ce.dst = some d → tm'.get d = tm.get d)
    (hr : ∀ v, q.1.ce.kd = 1 → holdsG tm' q.1.ce.guard = some true → (∀ d, q.1.ce.dst = some d → tm'.get d = some v) → readA P q.1.ce.co tm' H = some v → readA P q.1.ce.co tm' H' = some v)
    (hn : ∀ id o, id < nx → env id = none → H.get id = some o → env' id = none ∧ H'.get id = some o) (hl : nx ≤ nx') : PendOK P env' tm' H' nx0 nx' q := by
  obtain ⟨b, v, h1, h2, h3, h4⟩ := h
  rw [CE.sees, sameOn_app] at hs
  have hg : holdsG tm' q.1.ce.guard = some b := (guard_same hs.1).trans h1
  have hd' : ∀ d, q.1.ce.dst = some d → tm'.get d = some v := fun d e => (hd d e).trans (h2 d e)
  refine ⟨b, v, hg, hd', h3, fun hb => ?_⟩
  subst hb
  rcases h4 rfl with ⟨k, e⟩ | ⟨k, e⟩ | ⟨k, id, o, e1, e2, e3, e4, e5, e6⟩
  · exact .inl ⟨k, (pure_same hs.2).trans e⟩
  · exact .inr (.inl ⟨k, hr v k hg hd' ((read_same hs.2).trans e)⟩)
  · obtain ⟨f1, f2⟩ := hn id o e4 e5 e6
    exact .inr (.inr ⟨k, id, o, e1, (new_same hs.2).trans e2, e3, Nat.lt_of_lt_of_le e4 hl, f1, f2⟩)

theorem kind_le (co : COp) : kind co ≤ 3 := by cases co <;> simp [kind]
theorem light_kd {ops : Array Oper} {o : Oper} {ce : CE} (h : Fits P G N ops o ce) (h3 : ce.kd ≠ 3) : ce.kd = 0 ∨ ce.kd = 1 ∨ ce.kd = 2 := by
  have h1 := h.kd
  have h2 := kind_le ce.co
  omega

/-- once all is told up to the next one that acts -/
structure Inv (P : Program) (G N : Nat) (ops : Array Oper) (ih : Nat → AV → Hp → Nat → VRes) (tm1 : T AV) (H1 : Hp) (nx1 : Nat) (ds1 : DS) (env0 : Env) (H0 : Hp) (nx0 : Nat) (w0 : World)
    (listed : Array Bool) (fuel : Nat) (env : Env) (pl : List Pd) (pend : List Pq) (rest : List Pl) (l : List CE) (tm : T AV) (H : Hp) (nx : Nat) (ds : DS) (tmS : T AV) (a : Act) (w : World) : Prop where
  pls : Pls P G N ops pl
  rgood : ∀ x ∈ rest, RGood P G N ops x
  drw : draws pl rest = some l
  run : opsA P G ih l tm H nx ds = .ok 0 tm1 H1 nx1 ds1
  clo : Clo ops (fun j => listed.getD j false = true)
  cov : ∀ j o, ops[j]? = some o → listed.getD j true = false → (∃ q ∈ pend, q.1.i = j) ∨ (∃ x ∈ rest, x.i = j)
  pnl : ∀ q ∈ pend, listed.getD q.1.i true = false
  rnl : ∀ x ∈ rest, listed.getD x.i true = false
  siz : listed.size = ops.size
  sub : ∀ q ∈ pend, q.1 ∈ pl ∧ q.1.hv = false
  rdis : rest.Pairwise (fun x y => x.i ≠ y.i)
  dis : pend.Pairwise (fun x y => x.1.i ≠ y.1.i ∧ ∀ k, x.2 = some k → y.2 ≠ some k)
  idb : ∀ q ∈ pend, ∀ k, q.2 = some k → k < nx
  len : pend.length + rest.length ≤ fuel
  st : St G N env tmS H nx ds a w
  agree : ∀ d, (∀ q ∈ pend, q.1.ce.dst ≠ some d) → tmS.get d = tm.get d
  tr : Tr G env0 H0 nx0 w0 env H nx w
  pok : ∀ q ∈ pend, PendOK P env tm H nx0 nx q

variable {ih : Nat → AV → Hp → Nat → VRes} {tm1 : T AV} {H1 : Hp} {nx1 : Nat} {ds1 : DS} {env0 : Env} {H0 : Hp} {w0 : World}
  {listed : Array Bool} {fuel : Nat} {pl : List Pd} {pend : List Pq} {rest : List Pl} {l : List CE} {ds : DS} {tmS : T AV} {a : Act} {w : World}

theorem putD_ne {d : Option Nat} {v : AV} (h : putD tm d v = some tm') {j : Nat} (hj : d ≠ some j) : tm'.get j = tm.get j := by
  cases d with
  | none => cases h; rfl
  | some d => exact T.get_put_ne (h : tm.put d v = some tm') (fun e => hj (by rw [e]))
theorem putD_eq {d : Option Nat} {v : AV} (h : putD tm d v = some tm') {j : Nat} (hj : d = some j) : tm'.get j = some v := by
  subst hj; exact T.get_put_same h

theorem Inv.advance {x : Pl} (h : Inv P G N ops ih tm1 H1 nx1 ds1 env0 H0 nx0 w0 listed fuel env pl pend (x :: rest) l tm H nx ds tmS a w) (hx : x.hv = false) :
    ∃ p q l' tm' H' nx', Inv P G N ops ih tm1 H1 nx1 ds1 env0 H0 nx0 w0 listed fuel env (p :: pl) (q :: pend) rest l' tm' H' nx' ds tmS a w := by
  obtain ⟨l', h1, h2, rfl⟩ := draws_cons h.drw
  have hp := okPl_spec h1
  have hrg := h.rgood x (List.mem_cons_self ..)
  obtain ⟨o, g1, g2, g3⟩ := hrg.op
  have hwc : withChk pl (preOf pl x.ed) x.ce = x.ce := by
    have : hvy x.ce = false := by
      cases hb : hvy x.ce with
      | false => rfl
      | true => exact absurd (Nat.eq_of_beq_eq_true hb) (hp.lt hx)
    simp [withChk, this]
  have hkd := light_kd g2 (hp.lt hx)
  have hrun := h.run
  rw [hwc] at hrun
  obtain ⟨b, v, tm', H', nx', e1, e2, e3, e4, e5⟩ := opA_light (k := opsA P G ih l') hrun hkd
  have hmem : (H' = H ∧ nx' = nx) ∨ (∃ o, H.put nx o = some H' ∧ nx' = nx + 1) := by
    cases b with
    | false => exact .inl (e4 rfl).2
    | true =>
      rcases e5 rfl with ⟨_, _, q1, q2⟩ | ⟨_, _, q1, q2⟩ | ⟨_, o, _, q1, q2⟩
      · exact .inl ⟨q1, q2⟩
      · exact .inl ⟨q1, q2⟩
      · exact .inr ⟨o, q1, q2⟩
  have hle : nx ≤ nx' := by rcases hmem with ⟨_, e⟩ | ⟨_, _, e⟩ <;> omega
  have hH : ∀ id, id < nx → H'.get id = H.get id := fun id hid => by
    rcases hmem with ⟨rfl, _⟩ | ⟨_, q, _⟩
    · rfl
    · exact T.get_put_ne q (by omega)
  have htop : ∀ id, nx' ≤ id → H'.get id = none := fun id hid => by
    rcases hmem with ⟨rfl, rfl⟩ | ⟨_, q, rfl⟩
    · exact h.st.s.top id hid
    · rw [T.get_put_ne q (by omega)]; exact h.st.s.top id (by omega)
  have hext : ∀ id o, H.get id = some o → H'.get id = some o := fun id o ho => by
    have : id < nx := by rcases Nat.lt_or_ge id nx with q | q; exact q; rw [h.st.s.top id q] at ho; cases ho
    rw [hH id this]; exact ho
  have hself : SameOn tm' tm x.ce.sees := fun i hi => putD_ne e2 (fun e => hp.self hx i e hi)
  have hpls := h.pls.cons hrg hp
  refine ⟨⟨x.i, x.ce, preOf pl x.ed, x.hv⟩, (⟨x.i, x.ce, preOf pl x.ed, x.hv⟩, if b = true ∧ x.ce.kd = 2 then some nx else none), l', tm', H', nx', ?_⟩
  refine ⟨hpls, fun y hy => h.rgood y (List.mem_cons_of_mem _ hy), h2, e3, h.clo, ?_, ?_, fun y hy => h.rnl y (List.mem_cons_of_mem _ hy), h.siz, ?_, (List.pairwise_cons.1 h.rdis).2, ?_, ?_, ?_, ?_, ?_, h.tr.more hle hH, ?_⟩
  · intro j o' hj hu
    rcases h.cov j o' hj hu with ⟨q, hq, e⟩ | ⟨y, hy, e⟩
    · exact .inl ⟨q, List.mem_cons_of_mem _ hq, e⟩
    · rcases List.mem_cons.1 hy with rfl | hy
      · exact .inl ⟨_, List.mem_cons_self .., e⟩
      · exact .inr ⟨y, hy, e⟩
  · intro q hq
    rcases List.mem_cons.1 hq with rfl | hq
    · exact h.rnl x (List.mem_cons_self ..)
    · exact h.pnl q hq
  · intro q hq
    rcases List.mem_cons.1 hq with rfl | hq
    · exact ⟨List.mem_cons_self .., hx⟩
    · exact ⟨List.mem_cons_of_mem _ (h.sub q hq).1, (h.sub q hq).2⟩
  · refine List.pairwise_cons.2 ⟨fun y hy => ⟨fun e => hp.new y.1 (h.sub y hy).1 e.symm, fun k hk e => ?_⟩, h.dis⟩
    have := h.idb y hy k e
    simp only at hk
    split at hk
    · cases hk; omega
    · cases hk
  · intro q hq k hk
    rcases List.mem_cons.1 hq with rfl | hq
    · simp only at hk
      split at hk
      · rename_i hb
        cases hk
        rcases e5 hb.1 with ⟨c, _⟩ | ⟨c, _⟩ | ⟨_, o, _, _, q2⟩
        · omega
        · omega
        · omega
      · cases hk
    · have := h.idb q hq k hk; omega
  · have := h.len; simp only [List.length_cons] at this ⊢; omega
  · exact ⟨h.st.g, h.st.t, h.st.n, h.st.m, h.st.s.more hle hH htop, h.st.d⟩
  · intro d hd
    have hne : x.ce.dst ≠ some d := hd _ (List.mem_cons_self ..)
    rw [putD_ne e2 hne]
    exact h.agree d (fun q hq => hd q (List.mem_cons_of_mem _ hq))
  · intro q hq
    rcases List.mem_cons.1 hq with rfl | hq
    · refine ⟨b, v, ?_, fun d hd => putD_eq e2 hd, fun hb => (e4 hb).1, fun hb => ?_⟩
      · rw [CE.sees, sameOn_app] at hself; rw [← e1]; exact guard_same hself.1
      · rw [CE.sees, sameOn_app] at hself
        rcases e5 hb with ⟨k, c, q1, q2⟩ | ⟨k, c, q1, q2⟩ | ⟨k, o, c, q1, q2⟩
        · exact .inl ⟨k, (pure_same hself.2).trans c⟩
        · subst q1; exact .inr (.inl ⟨k, (read_same hself.2).trans c⟩)
        · refine .inr (.inr ⟨k, nx, o, by simp [hb, k], (new_same hself.2).trans c, h.tr.nxle, by omega, ?_, T.get_put_same q1⟩)
          cases e : env nx with
          | none => rfl
          | some K => have := (h.st.s.bnd nx K e).2; omega
    · have hsub := h.sub q hq
      refine (h.pok q hq).keep (fun i hi => putD_ne e2 (fun e => (by have := ((hp.dst q.1 hsub.1 i e).2 hsub.2 hi).1; rw [hx] at this; cases this))) (fun d hd => putD_ne e2 (fun e => (hp.dst q.1 hsub.1 d e).1 hd)) (fun v _ _ _ hr => read_ext hext hr) (fun id o hid hn ho => ⟨hn, hext id o ho⟩) hle

/-- up to the next one that acts -/
theorem Inv.norm : ∀ {rest : List Pl} {pl : List Pd} {pend : List Pq} {l : List CE} {tm : T AV} {H : Hp} {nx : Nat}, Inv P G N ops ih tm1 H1 nx1 ds1 env0 H0 nx0 w0 listed fuel env pl pend rest l tm H nx ds tmS a w →
    ∃ pl pend rest l tm H nx, Inv P G N ops ih tm1 H1 nx1 ds1 env0 H0 nx0 w0 listed fuel env pl pend rest l tm H nx ds tmS a w ∧ (rest = [] ∨ ∃ x r, rest = x :: r ∧ x.hv = true)
  | [], pl, pend, l, tm, H, nx, h => ⟨pl, pend, [], l, tm, H, nx, h, .inl rfl⟩
  | x :: rest, pl, pend, l, tm, H, nx, h => by
    cases hv : x.hv with
    | true => exact ⟨pl, pend, x :: rest, l, tm, H, nx, h, .inr ⟨x, rest, rfl, hv⟩⟩
    | false =>
      obtain ⟨p, q, l', tm', H', nx', h'⟩ := h.advance hv
      exact Inv.norm h'
termination_by structural rest => rest

theorem clo_set {i : Nat} (h : Clo ops (fun j => listed.getD j false = true)) {o : Oper} (ho : ops[i]? = some o) (he : ∀ e ∈ anyEdges o, listed.getD e false = true) :
    Clo ops (fun j => (listed.setIfInBounds i true).getD j false = true) := by
  intro j o' hj hl e hm
  by_cases hji : i = j
  · subst hji; rw [ho] at hj; cases hj; exact getD_set_true (he e hm)
  · simp only [getD_set_ne false hji] at hl; exact getD_set_true (h j o' hj hl e hm)

theorem unl_set {i j : Nat} (h : (listed.setIfInBounds i true).getD j true = false) : listed.getD j true = false ∧ j ≠ i := by
  by_cases hji : i = j
  · subst hji
    exfalso
    rcases Nat.lt_or_ge i listed.size with h' | h'
    · simp [h'] at h
    · simp [Array.getElem?_eq_none h'] at h
  · exact ⟨by rwa [getD_set_ne true hji] at h, fun e => hji e.symm⟩
theorem unl_not {j : Nat} (h : listed.getD j true = false) : ¬ (listed.getD j false = true) := by
  rcases Nat.lt_or_ge j listed.size with h' | h'
  · simp [h'] at h ⊢; exact h
  · simp [Array.getElem?_eq_none h'] at h
theorem not_unl {i j : Nat} (h : listed.getD j true = false) (hn : j ≠ i) : (listed.setIfInBounds i true).getD j true = false := by
  rw [getD_set_ne true (fun e => hn e.symm)]; exact h

/-- what a ready one looks at is done -/
theorem Inv.looks (h : Inv P G N ops ih tm1 H1 nx1 ds1 env0 H0 nx0 w0 listed fuel env pl pend rest l tm H nx ds tmS a w) {q : Pq} (hq : q ∈ pend) {o : Oper} (ho : ops[q.1.i]? = some o) (he : ∀ e ∈ anyEdges o, listed.getD e false = true) : SameOn tmS tm q.1.ce.sees := by
  intro d hd
  refine h.agree d (fun r hr hrd => ?_)
  have hs := h.sub q hq
  have := h.pls.see q.1 hs.1 hs.2 r.1 (h.sub r hr).1 (h.sub r hr).2 d hrd hd
  obtain ⟨o', g1, g2, g3⟩ := h.pls.good q.1 hs.1
  rw [ho] at g1; cases g1
  exact unl_not (h.pnl r hr) (g3 _ this _ h.clo he)
end Go.Ev

namespace Go.Ev
variable {P : Program} {G N : Nat} {ops : Array Oper} {env env' : Env} {tm tm' : T AV} {H H' : Hp} {nx0 nx nx' : Nat}
variable {ih : Nat → AV → Hp → Nat → VRes} {tm1 : T AV} {H1 : Hp} {nx1 : Nat} {ds1 : DS} {env0 : Env} {H0 : Hp} {w0 : World}
  {listed : Array Bool} {fuel : Nat} {pl : List Pd} {pend : List Pq} {rest : List Pl} {l : List CE} {ds : DS} {tmS : T AV} {a : Act} {w : World}

theorem put_some {t : T AV} {d : Nat} {u v : AV} (h : t.get d = some u) : ∃ t', t.put d v = some t' := by
  induction t generalizing d with
  | e => simp at h
  | n x l r ihl ihr =>
    rw [T.get_n] at h; rw [T.put_n]
    cases d with
    | zero => exact ⟨_, rfl⟩
    | succ j =>
      simp only at h ⊢
      split
      · rename_i e; rw [if_pos e] at h; obtain ⟨t', q⟩ := ihl h; exact ⟨_, by rw [q]; rfl⟩
      · rename_i e; rw [if_neg e] at h; obtain ⟨t', q⟩ := ihr h; exact ⟨_, by rw [q]; rfl⟩
theorem putD_some {d : Option Nat} {v : AV} (h : ∀ i, d = some i → ∃ u, tm.get i = some u) : ∃ t', putD tm d v = some t' := by
  cases d with
  | none => exact ⟨tm, rfl⟩
  | some d => obtain ⟨u, hu⟩ := h d rfl; exact put_some hu

/-- what is done is struck -/
theorem Inv.strike {A B : List Pq} {q : Pq} {o : Oper} (h : Inv P G N ops ih tm1 H1 nx1 ds1 env0 H0 nx0 w0 listed (fuel + 1) env pl (A ++ q :: B) rest l tm H nx ds tmS a w) (ho : ops[q.1.i]? = some o) (he : ∀ e ∈ anyEdges o, listed.getD e false = true)
    {env' : Env} {tmS' : T AV} {a' : Act} {w' : World} (hst : St G N env' tmS' H nx ds a' w') (htr : Tr G env0 H0 nx0 w0 env' H nx w')
    (hag : ∀ d, q.1.ce.dst = some d → tmS'.get d = tm.get d) (hne : ∀ d, q.1.ce.dst ≠ some d → tmS'.get d = tmS.get d) (hkeep : ∀ id, env id = none → q.2 ≠ some id → env' id = none) :
    Inv P G N ops ih tm1 H1 nx1 ds1 env0 H0 nx0 w0 (listed.setIfInBounds q.1.i true) fuel env' pl (A ++ B) rest l tm H nx ds tmS' a' w' := by
  have hq : q ∈ A ++ q :: B := by simp
  have hmem : ∀ r, r ∈ A ++ B → r ∈ A ++ q :: B := fun r hr => by
    rcases List.mem_append.1 hr with hr | hr
    · exact List.mem_append_left _ hr
    · exact List.mem_append_right _ (List.mem_cons_of_mem _ hr)
  have hdis : ∀ r ∈ A ++ B, r.1.i ≠ q.1.i ∧ ∀ k, r.2 = some k → q.2 ≠ some k := fun r hr => by
    obtain ⟨d1, d2, d3⟩ := List.pairwise_append.1 h.dis
    rcases List.mem_append.1 hr with hr | hr
    · exact d3 r hr q (List.mem_cons_self ..)
    · have := (List.pairwise_cons.1 d2).1 r hr
      exact ⟨fun e => this.1 e.symm, fun k hk e => this.2 k e hk⟩
  refine ⟨h.pls, h.rgood, h.drw, h.run, clo_set h.clo ho he, ?_, ?_, ?_, by simp [h.siz], fun r hr => h.sub r (hmem r hr), h.rdis, ?_, fun r hr => h.idb r (hmem r hr), ?_, hst, ?_, htr, ?_⟩
  · intro j o' hj hu
    obtain ⟨u1, u2⟩ := unl_set hu
    rcases h.cov j o' hj u1 with ⟨r, hr, e⟩ | hx
    · refine .inl ⟨r, ?_, e⟩
      rcases List.mem_append.1 hr with hr | hr
      · exact List.mem_append_left _ hr
      · rcases List.mem_cons.1 hr with rfl | hr
        · exact absurd e.symm u2
        · exact List.mem_append_right _ hr
    · exact .inr hx
  · intro r hr; exact not_unl (h.pnl r (hmem r hr)) (hdis r hr).1
  · intro x hx
    refine not_unl (h.rnl x hx) (fun e => ?_)
    -- q was placed, x was not
    have hs := (h.sub q hq).1
    have : ∀ {rest : List Pl} {pl : List Pd} {l : List CE}, draws pl rest = some l → ∀ p ∈ pl, ∀ x ∈ rest, p.i ≠ x.i := by
      intro rest
      induction rest with
      | nil => intro pl l _ p _ x hx; cases hx
      | cons y rest ihr =>
        intro pl l hd p hp x hx
        obtain ⟨l', k1, k2, _⟩ := draws_cons hd
        rcases List.mem_cons.1 hx with rfl | hx
        · exact (okPl_spec k1).new p hp
        · exact ihr k2 p (List.mem_cons_of_mem _ hp) x hx
    exact this h.drw q.1 hs x hx e.symm
  · obtain ⟨d1, d2, d3⟩ := List.pairwise_append.1 h.dis
    exact List.pairwise_append.2 ⟨d1, (List.pairwise_cons.1 d2).2, fun x hx y hy => d3 x hx y (List.mem_cons_of_mem _ hy)⟩
  · have := h.len; simp only [List.length_append, List.length_cons] at this ⊢; omega
  · intro d hd
    by_cases e : q.1.ce.dst = some d
    · exact hag d e
    · rw [hne d e]
      refine h.agree d (fun r hr => ?_)
      rcases List.mem_append.1 hr with hr | hr
      · exact hd r (List.mem_append_left _ hr)
      · rcases List.mem_cons.1 hr with rfl | hr
        · exact e
        · exact hd r (List.mem_append_right _ hr)
  · intro r hr
    obtain ⟨b, v, h1, h2, h3, h4⟩ := h.pok r (hmem r hr)
    refine ⟨b, v, h1, h2, h3, fun hb => ?_⟩
    rcases h4 hb with c | c | ⟨k, id, o', e1, e2, e3, e4, e5, e6⟩
    · exact .inl c
    · exact .inr (.inl c)
    · exact .inr (.inr ⟨k, id, o', e1, e2, e3, e4, hkeep id e5 ((hdis r hr).2 id e1), e6⟩)

theorem Inv.light {A B : List Pq} {q : Pq} {o : Oper} (h : Inv P G N ops ih tm1 H1 nx1 ds1 env0 H0 nx0 w0 listed (fuel + 1) env pl (A ++ q :: B) rest l tm H nx ds tmS a w) (ho : ops[q.1.i]? = some o) (he : ∀ e ∈ anyEdges o, listed.getD e false = true)
    {K : Act → World → Prop} {Q : Exit → Act → World → Prop}
    (hK : ∀ env' tmS' a' w', Inv P G N ops ih tm1 H1 nx1 ds1 env0 H0 nx0 w0 (listed.setIfInBounds q.1.i true) fuel env' pl (A ++ B) rest l tm H nx ds tmS' a' w' → K a' w') : wpOp P ops Q q.1.i K a w := by
  have hq : q ∈ A ++ q :: B := by simp
  have hsee := h.looks hq ho he
  obtain ⟨o', g1, hf, _⟩ := h.pls.good q.1 (h.sub q hq).1
  rw [ho] at g1; cases g1
  have hpo := h.pok q hq
  obtain ⟨b, v, h1, h2, h3, h4⟩ := hpo
  rw [CE.sees, sameOn_app] at hsee
  have hgS : holdsG tmS q.1.ce.guard = some b := (guard_same hsee.1).trans h1
  have dlt : ∀ d, o.dst = some d → d < N := fun d e => hf.lt d (by rw [hf.dst]; exact e)
  obtain ⟨tmS', hp⟩ : ∃ t', putD tmS o.dst v = some t' := putD_some (fun i hi => h.st.m i (dlt i hi))
  have hag : ∀ d, q.1.ce.dst = some d → tmS'.get d = tm.get d := fun d e => by rw [h2 d e]; exact putD_eq hp (by rw [← hf.dst]; exact e)
  have hne : ∀ d, q.1.ce.dst ≠ some d → tmS'.get d = tmS.get d := fun d e => putD_ne hp (by rw [← hf.dst]; exact e)
  unfold wpOp
  rw [ho]
  simp only
  rw [guard_sound hf.guard h.st.t hgS]
  cases b with
  | false =>
    simp only [Bool.false_eq_true, if_false]
    have hv : v = undefA := h3 rfl
    subst hv
    exact hK _ _ _ _ (h.strike ho he (h.st.put (Le.refl _) h.st.s dlt (undef_VR env) hp) h.tr hag hne (fun _ e _ => e))
  | true =>
    simp only [if_true]
    refine .inl ?_
    unfold Oper.wp
    rcases h4 rfl with ⟨k, e⟩ | ⟨k, e⟩ | ⟨k, id, ob, e1, e2, e3, e4, e5, e6⟩
    · obtain ⟨c, r1, r2⟩ := pure_sound h.st.g h.st.t hf.co (by rw [← hf.kd]; exact k) ((pure_same hsee.2).trans e) w
      rw [r1]
      exact hK _ _ _ _ (h.strike ho he (h.st.put (Le.refl _) h.st.s dlt r2 hp) h.tr hag hne (fun _ e _ => e))
    · obtain ⟨c, r1, r2⟩ := read_sound h.st.g h.st.t h.st.s hf.co (by rw [← hf.kd]; exact k) ((read_same hsee.2).trans e)
      rw [r1]
      exact hK _ _ _ _ (h.strike ho he (h.st.put (Le.refl _) h.st.s dlt r2 hp) h.tr hag hne (fun _ e _ => e))
    · obtain ⟨c, obj, w', r1, r2, r3, r4, r5, L, hL, r6⟩ := new_sound (w := w) h.st.g h.st.t hf.co (by rw [← hf.kd]; exact k) ((new_same hsee.2).trans e2)
      obtain ⟨env', s1, s2, s3, s4, s5⟩ := SR.late h.st.s L hL e4 e5 e6 r2 r3 r4 r5 (fun env' hle he => (r6 env' hle he).2) h.tr e3
      rw [r1]
      refine hK _ _ _ _ (h.strike ho he (h.st.put s4 s2 dlt (r6 env' s4 s1).1 hp) s3 hag hne (fun j hj hn => ?_))
      rw [s5 j (fun e => hn (by rw [e1, e]))]; exact hj

theorem chk_mem {pre : Nat} {q : Pd} {d : Nat} (hk : q.ce.kd = 1) (hb : bit pre q.i = false) (hd : q.ce.dst = some d) : ∀ {pl : List Pd}, q ∈ pl → (q.ce.guard, q.ce.co, d) ∈ chkOf pre pl := by
  intro pl
  induction pl with
  | nil => intro h; cases h
  | cons p pl ih =>
    intro hq
    have e : chkOf pre (p :: pl) = Bool.rec (motive := fun _ => List (Option (Nat × Bool) × COp × Nat)) (chkOf pre pl)
      (Option.rec (motive := fun _ => List (Option (Nat × Bool) × COp × Nat)) (chkOf pre pl) (fun d => (p.ce.guard, p.ce.co, d) :: chkOf pre pl) p.ce.dst) (bz (Nat.beq p.ce.kd 1) (bn (bit pre p.i)) false) := rfl
    rw [e]
    rcases List.mem_cons.1 hq with rfl | hq
    · have : bz (Nat.beq q.ce.kd 1) (bn (bit pre q.i)) false = true := by rw [hk, hb]; rfl
      rw [this, hd]
      exact List.mem_cons_self ..
    · have ih := ih hq
      cases bz (Nat.beq p.ce.kd 1) (bn (bit pre p.i)) false with
      | false => exact ih
      | true =>
        cases p.ce.dst with
        | none => exact ih
        | some e => exact List.mem_cons_of_mem _ ih
theorem chk_spec {g : Option (Nat × Bool)} {co : COp} {d : Nat} (hg : holdsG tm g = some true) {v : AV} (hv : tm.get d = some v) : ∀ {l : List (Option (Nat × Bool) × COp × Nat)}, chkA P tm H l = true → (g, co, d) ∈ l → readA P co tm H = some v := by
  intro l
  induction l with
  | nil => intro _ h; cases h
  | cons x l ih =>
    intro h hm
    obtain ⟨g', co', d'⟩ := x
    simp only [chkA] at h
    rcases List.mem_cons.1 hm with e | hm
    · cases e
      rw [hg] at h
      simp only at h
      split at h
      · rename_i x y h1 h2
        cases hs : sameAV 1000 x y <;> rw [hs] at h
        · cases h
        · have := sameAV_eq hs
          subst this
          rw [hv] at h2; cases h2; exact h1
      · cases h
    · have hl : chkA P tm H l = true := by
        split at h
        · exact h
        · split at h
          · rename_i x y _ _
            cases hs : sameAV 1000 x y <;> rw [hs] at h
            · cases h
            · exact h
          · cases h
        · cases h
      exact ih hl hm

theorem Inv.heavy {x : Pl} {r : List Pl} {o : Oper} (hih : CallOK P G ih) (h : Inv P G N ops ih tm1 H1 nx1 ds1 env0 H0 nx0 w0 listed (fuel + 1) env pl pend (x :: r) l tm H nx ds tmS a w) (hx : x.hv = true) (ho : ops[x.i]? = some o) (he : ∀ e ∈ anyEdges o, listed.getD e false = true)
    {K : Act → World → Prop} {Q : Exit → Act → World → Prop}
    (hK : ∀ env' pl' l' tm' H' nx' ds' tmS' a' w', Inv P G N ops ih tm1 H1 nx1 ds1 env0 H0 nx0 w0 (listed.setIfInBounds x.i true) fuel env' pl' pend r l' tm' H' nx' ds' tmS' a' w' → K a' w') : wpOp P ops Q x.i K a w := by
  obtain ⟨l', h1, h2, rfl⟩ := draws_cons h.drw
  have hp := okPl_spec h1
  have hrg := h.rgood x (List.mem_cons_self ..)
  obtain ⟨o', g1, g2, g3⟩ := hrg.op
  rw [ho] at g1; cases g1
  have hkd : x.ce.kd = 3 ∨ x.ce.kd = 0 ∨ x.ce.kd = 1 := by
    have h1 := hp.hk hx
    have h2 := g2.kd
    have h3 := kind_le x.ce.co
    omega
  have hwc : ∃ chk, withChk pl (preOf pl x.ed) x.ce = { x.ce with chk := chk } ∧ (x.ce.kd = 3 → chk = chkOf (preOf pl x.ed) pl) := by
    unfold withChk
    cases hb : hvy x.ce with
    | true => exact ⟨_, rfl, fun _ => rfl⟩
    | false => exact ⟨x.ce.chk, rfl, fun e => by rw [hvy, e] at hb; cases hb⟩
  obtain ⟨chk, hwc, hchk⟩ := hwc
  have hrun := h.run
  rw [hwc] at hrun
  have hpl := h.pls.cons hrg hp
  have hdone : ∀ q ∈ pend, bit (preOf pl x.ed) q.1.i = false := fun q hq => by
    cases hb : bit (preOf pl x.ed) q.1.i with
    | false => rfl
    | true => exact absurd (preOf_ok h.pls.good hb _ h.clo (fun e hm => he e (g3 ▸ hm))) (unl_not (h.pnl q hq))
  have hsee : SameOn tmS tm x.ce.sees := fun d hd => by
    refine h.agree d (fun q hq hqd => ?_)
    have := hp.sees q.1 (h.sub q hq).1 d hqd hd
    rw [hdone q hq] at this; cases this
  obtain ⟨v, tm', H', nx', ds', e1, e2, e3, e4⟩ := opA_hv (k := opsA P G ih l') hrun hkd
  obtain ⟨tmS', hps⟩ : ∃ t', putD tmS x.ce.dst v = some t' := putD_some (fun i hi => h.st.m i (g2.lt i hi))
  have hrun' := e4 x.ce tmS tmS' (fun t H n d => .ok 0 t H n d) rfl rfl rfl rfl hrg.chk hsee hps
  refine op_sound hih ho g2 h.st hrun' ?_
  rintro env' t2 H2 n2 d2 a' w' hst htr heq
  cases heq
  have hdd : ∀ q ∈ pend, ∀ d, x.ce.dst = some d → q.1.ce.dst ≠ some d ∧ d ∉ q.1.ce.sees := fun q hq d hd => by
    have hs := h.sub q hq
    exact ⟨(hp.dst q.1 hs.1 d hd).1, fun hm => (by have := ((hp.dst q.1 hs.1 d hd).2 hs.2 hm).2; rw [hdone q hq] at this; cases this)⟩
  have hnone : ∀ id, id < nx → env id = none → env' id = none := fun id hid hn => by
    cases e : env' id with
    | none => rfl
    | some L =>
      rcases htr.news id L e with c | ⟨c, _⟩
      · rw [hn] at c; cases c
      · omega
  refine hK env' (⟨x.i, x.ce, preOf pl x.ed, x.hv⟩ :: pl) l' tm' H' nx' ds' tmS' a' w' ?_
  refine ⟨hpl, fun y hy => h.rgood y (List.mem_cons_of_mem _ hy), h2, e2, clo_set h.clo ho he, ?_, ?_, ?_, by simp [h.siz], fun q hq => ⟨List.mem_cons_of_mem _ (h.sub q hq).1, (h.sub q hq).2⟩, (List.pairwise_cons.1 h.rdis).2, h.dis, fun q hq k hk => Nat.lt_of_lt_of_le (h.idb q hq k hk) htr.nxle, ?_, hst, ?_, h.tr.trans htr, ?_⟩
  · intro j o' hj hu
    obtain ⟨u1, u2⟩ := unl_set hu
    rcases h.cov j o' hj u1 with c | ⟨y, hy, e⟩
    · exact .inl c
    · rcases List.mem_cons.1 hy with rfl | hy
      · exact absurd e.symm u2
      · exact .inr ⟨y, hy, e⟩
  · intro q hq; exact not_unl (h.pnl q hq) (hp.new q.1 (h.sub q hq).1)
  · intro y hy; exact not_unl (h.rnl y (List.mem_cons_of_mem _ hy)) (fun e => (List.pairwise_cons.1 h.rdis).1 y hy e.symm)
  · have := h.len; simp only [List.length_cons] at this; omega
  · intro d hd
    by_cases e : x.ce.dst = some d
    · rw [putD_eq hps e, putD_eq e1 e]
    · rw [putD_ne hps e, putD_ne e1 e]; exact h.agree d hd
  · intro q hq
    refine (h.pok q hq).keep (fun i hi => putD_ne e1 (fun e => (hdd q hq i e).2 hi)) (fun d hd => putD_ne e1 (fun e => (hdd q hq d e).1 hd)) ?_ ?_ htr.nxle
    · intro u hk hg hd hr
      rcases e3 with ⟨e3k, e3⟩ | ⟨rfl, _⟩
      · have hs := h.sub q hq
        obtain ⟨d, hd'⟩ := h.pls.rd q.1 hs.1 hk
        exact chk_spec hg (hd d hd') e3 (by show _ ∈ chk; rw [hchk e3k]; exact chk_mem hk (hdone q hq) hd' hs.1)
      · exact hr
    · intro id ob hid hn hob
      exact ⟨hnone id hid hn, by rw [htr.un id hid hn]; exact hob⟩
end Go.Ev

namespace Go.Ev
variable {P : Program} {G N : Nat} {ops : Array Oper} {env env' : Env} {tm tm' : T AV} {H H' : Hp} {nx0 nx nx' : Nat}
variable {ih : Nat → AV → Hp → Nat → VRes} {tm1 : T AV} {H1 : Hp} {nx1 : Nat} {ds1 : DS} {env0 : Env} {H0 : Hp} {w0 : World}

theorem anyEdges_mem {o : Oper} {j : Nat} : j ∈ anyEdges o ↔ ∃ e ∈ o.after, Region.binds .any e = true ∧ e.on = j := by
  simp only [anyEdges, List.mem_filterMap, cond_eq_ite]
  constructor
  · rintro ⟨e, he, h⟩
    split at h
    · rename_i hb; cases h; exact ⟨e, by simpa using he, hb, rfl⟩
    · cases h
  · rintro ⟨e, he, hb, rfl⟩
    exact ⟨e, by simpa using he, by simp [hb]⟩

theorem ready_iff {j : Nat} {listed : Array Bool} : j ∈ Region.ready .any ops listed ↔ listed.getD j true = false ∧ ∃ o, ops[j]? = some o ∧ ∀ e ∈ anyEdges o, listed.getD e false = true := by
  rw [mem_ready]
  constructor
  · rintro ⟨h, o, ho, k⟩
    refine ⟨h, o, ho, fun e he => ?_⟩
    obtain ⟨e', h1, h2, rfl⟩ := anyEdges_mem.1 he
    exact k e' h1 h2
  · rintro ⟨h, o, ho, k⟩
    exact ⟨h, o, ho, fun e he hb => k e.on (anyEdges_mem.2 ⟨e, he, hb, rfl⟩)⟩

theorem draws_apart : ∀ {rest : List Pl} {pl : List Pd} {l : List CE}, draws pl rest = some l → (∀ p ∈ pl, ∀ x ∈ rest, p.i ≠ x.i) ∧ rest.Pairwise (fun x y => x.i ≠ y.i)
  | [], _, _, _ => ⟨(fun p _ x hx => by cases hx), List.Pairwise.nil⟩
  | y :: rest, pl, l, hd => by
    obtain ⟨l', k1, k2, _⟩ := draws_cons hd
    obtain ⟨h1, h2⟩ := draws_apart k2
    refine ⟨fun p hp x hx => ?_, List.pairwise_cons.2 ⟨fun x hx => h1 _ (List.mem_cons_self ..) x hx, h2⟩⟩
    rcases List.mem_cons.1 hx with rfl | hx
    · exact (okPl_spec k1).new p hp
    · exact h1 p (List.mem_cons_of_mem _ hp) x hx

theorem mkPls_spec {all : List CE} : ∀ {ix : List Nat} {ps : List Pl}, mkPls P G N ops all ix = some ps → ps.map (·.i) = ix ∧ ∀ x ∈ ps, RGood P G N ops x
  | [], ps, h => by cases h; exact ⟨rfl, fun x hx => by cases hx⟩
  | i :: ix, ps, h => by
    simp only [mkPls] at h
    split at h
    · rename_i o ho
      split at h
      · rename_i c r h1 h2
        cases h
        obtain ⟨q1, q2⟩ := mkPls_spec h2
        refine ⟨by simp [q1], fun x hx => ?_⟩
        rcases List.mem_cons.1 hx with rfl | hx
        · exact ⟨⟨o, ho, (fits h1).1, rfl⟩, (fits h1).2⟩
        · exact q2 x hx
      · cases h
    · cases h

theorem any_ok (hih : CallOK P G ih) {Q : Exit → Act → World → Prop} (hq : ∀ env' a' w', St G N env' tm1 H1 nx1 ds1 a' w' → Tr G env0 H0 nx0 w0 env' H1 nx1 w' → Q .normal a' w') :
    ∀ (fuel : Nat) {listed : Array Bool} {env : Env} {pl : List Pd} {pend : List Pq} {rest : List Pl} {l : List CE} {tm : T AV} {H : Hp} {nx : Nat} {ds : DS} {tmS : T AV} {a : Act} {w : World},
      Inv P G N ops ih tm1 H1 nx1 ds1 env0 H0 nx0 w0 listed fuel env pl pend rest l tm H nx ds tmS a w → wpAny P .any ops Q fuel listed a w := by
  intro fuel
  induction fuel with
  | zero =>
    intro listed env pl pend rest l tm H nx ds tmS a w h
    have hlen := h.len
    have h1 : pend = [] := List.eq_nil_of_length_eq_zero (by omega)
    have h2 : rest = [] := List.eq_nil_of_length_eq_zero (by omega)
    subst h1; subst h2
    refine ⟨?_, ?_⟩
    · rw [List.eq_nil_iff_forall_not_mem]
      intro j hj
      obtain ⟨u, o, ho, _⟩ := ready_iff.1 hj
      rcases h.cov j o ho u with ⟨q, hq, _⟩ | ⟨x, hx, _⟩
      · cases hq
      · cases hx
    · have hd := h.drw
      simp only [draws] at hd
      cases hd
      have hr := h.run
      simp only [opsA] at hr
      cases hr
      have hag : ∀ d, tmS.get d = tm1.get d := fun d => h.agree d (fun q hq => by cases hq)
      exact hq env a w ⟨h.st.g, fun i v hv => h.st.t i v (by rw [hag]; exact hv), h.st.n, fun d hd => by rw [← hag]; exact h.st.m d hd, h.st.s, h.st.d⟩ h.tr
  | succ fuel ihf =>
    intro listed env pl pend rest l tm H nx ds tmS a w h
    obtain ⟨pl, pend, rest, l, tm, H, nx, h, hn⟩ := h.norm
    have hS : ∀ j, listed.getD j false = true ∨ ¬ listed.getD j false = true := fun j => by cases listed.getD j false <;> simp

    refine ⟨fun hr => ?_, fun i hi => ?_⟩
    · have hnone : ∀ j o, ops[j]? = some o → listed.getD j true = false → ¬ ∀ e ∈ anyEdges o, listed.getD e false = true := fun j o ho hu hall => by
        have : j ∈ Region.ready .any ops listed := ready_iff.2 ⟨hu, o, ho, hall⟩
        rw [hr] at this; cases this
      have hlt : ∀ p ∈ pl, ¬ listed.getD p.i false = true → listed.getD p.i true = false := fun p hp hn => by
        rcases Nat.lt_or_ge p.i listed.size with h' | h'
        · simp [h'] at hn ⊢; exact hn
        · exfalso
          -- placed, but out of the list: it would be ready
          exact absurd h' (by have := h.siz; obtain ⟨o, g1, _⟩ := h.pls.good p hp; have := (Array.getElem?_eq_some_iff.1 g1).1; omega)
      have hall : ∀ p ∈ pl, listed.getD p.i false = true := fun p hp => by
        refine (hS p.i).resolve_right (fun hn => ?_)
        obtain ⟨q, q1, q2, q3⟩ := some_ready hS h.pls.good h.pls.tail ⟨p, hp, hn⟩
        obtain ⟨o, g1, _⟩ := h.pls.good q q1
        exact hnone q.i o g1 (hlt q q1 q2) (q3 o g1)
      have hp0 : pend = [] := by
        cases hpe : pend with
        | nil => rfl
        | cons q pe =>
          have hqm : q ∈ pend := by rw [hpe]; exact List.mem_cons_self ..
          exact absurd (hall q.1 (h.sub q hqm).1) (unl_not (h.pnl q hqm))
      have hr0 : rest = [] := by
        rcases hn with hn | ⟨x, r, rfl, hx⟩
        · exact hn
        · exfalso
          obtain ⟨o, g1, g2, g3⟩ := (h.rgood x (List.mem_cons_self ..)).op
          obtain ⟨l', h1, h2, _⟩ := draws_cons h.drw
          refine hnone x.i o g1 (h.rnl x (List.mem_cons_self ..)) (fun e he => ?_)
          obtain ⟨p, hp, rfl⟩ := (okPl_spec h1).ed e (g3 ▸ he)
          exact hall p hp
      subst hp0; subst hr0
      have hd := h.drw
      simp only [draws] at hd
      cases hd
      have hr := h.run
      simp only [opsA] at hr
      cases hr
      have hag : ∀ d, tmS.get d = tm1.get d := fun d => h.agree d (fun q hq => by cases hq)
      exact hq env a w ⟨h.st.g, fun i v hv => h.st.t i v (by rw [hag]; exact hv), h.st.n, fun d hd => by rw [← hag]; exact h.st.m d hd, h.st.s, h.st.d⟩ h.tr
    · obtain ⟨hu, o, ho, he⟩ := ready_iff.1 hi
      rcases h.cov i o ho hu with ⟨q, hq, rfl⟩ | ⟨x, hx, rfl⟩
      · obtain ⟨A, B, rfl⟩ := List.append_of_mem hq
        exact h.light ho he (fun env' tmS' a' w' h' => ihf h')
      · rcases hn with rfl | ⟨y, r, rfl, hy⟩
        · cases hx
        · rcases List.mem_cons.1 hx with rfl | hx
          · exact h.heavy hih hy ho he (fun env' pl' l' tm' H' nx' ds' tmS' a' w' h' => ihf h')
          · exfalso
            obtain ⟨l', h1, h2, _⟩ := draws_cons h.drw
            have hrg := h.rgood y (List.mem_cons_self ..)
            have hpl := h.pls.cons hrg (okPl_spec h1)
            have hr' : ∀ z ∈ r, RGood P G N ops z := fun z hz => h.rgood z (List.mem_cons_of_mem _ hz)
            obtain ⟨o', g1, g2, g3⟩ := (hr' x hx).op
            rw [ho] at g1; cases g1
            have := behind h.clo hpl hr' h2 (k := y.i) (by show Bool.rec (motive := fun _ => Option Nat) _ _ y.hv = _; rw [hy]) x hx (fun e hm => he e (g3 ▸ hm))
            exact unl_not (h.rnl y (List.mem_cons_self ..)) this

theorem draw_ok (hmix : P.follows .mixedOrders = true) : ∀ ih, CallOK P G ih → DrawOK P G ih := by
  intro ih hih N id ops l hc env tm H nx ds a w x tm1 H1 nx1 ds1 hst h Q hq
  have hx := opsA_zero (P := P) (G := G) h
  subst hx
  unfold cDraw at hc
  split at hc
  · cases hc
  · rename_i ces hces
    simp only [cond_eq_ite] at hc
    generalize ordGo (numb ces 0 ops.toList ces) ops.size 0 = ix at hc
    split at hc
    · rename_i hb
      split at hc
      · rename_i ps hps
        simp only [Bool.and_eq_true] at hb
        obtain ⟨hb1, hb2⟩ := hb
        obtain ⟨m1, m2⟩ := mkPls_spec hps
        have hlike : Like w { w with drawn := w.drawn + 1 } := ⟨rfl, rfl, rfl, rfl⟩
        obtain ⟨k1, k2⟩ := hst.s.like (G := G) hlike
        refine wp_region_any hmix (any_ok hih (env0 := env) (H0 := H) (nx0 := nx) (w0 := w) hq ops.size (env := env) (pl := []) (pend := []) (rest := ps) (l := l) (tm := tm) (H := H) (nx := nx) (ds := ds) (tmS := tm) ?_)
        refine ⟨⟨fun p hp => (by cases hp), fun p hp => (by cases hp), trivial, fun p hp => (by cases hp)⟩, m2, hc, h, ?_, ?_, fun q hq => (by cases hq), ?_, by simp, fun q hq => (by cases hq), (draws_apart hc).2, List.Pairwise.nil, fun q hq => (by cases hq), ?_, ⟨hst.g, hst.t, hst.n, hst.m, k1, hst.d⟩, fun _ _ => rfl, k2, fun q hq => (by cases hq)⟩
        · intro i o ho hl
          exfalso
          have : (Array.replicate ops.size false).getD i false = false := by
            simp only [Array.getD_eq_getD_getElem?, Array.getElem?_replicate]
            split <;> rfl
          rw [this] at hl; cases hl
        · intro j o ho _
          have hlt : j < ops.size := (Array.getElem?_eq_some_iff.1 ho).1
          have := List.all_eq_true.1 hb2 j (List.mem_range.2 hlt)
          rw [bitsOf_mem, ← m1, List.mem_map] at this
          obtain ⟨x, hx, e⟩ := this
          exact .inr ⟨x, hx, e⟩
        · intro x hx
          obtain ⟨o, g1, _⟩ := (m2 x hx).op
          have hlt : x.i < ops.size := (Array.getElem?_eq_some_iff.1 g1).1
          simp [Array.getElem?_replicate, hlt]
        · have e1 := Nat.eq_of_beq_eq_true hb1
          have : ps.length = ix.length := by rw [← m1]; simp
          simp only [List.length_nil]
          omega
      · cases hc
    · cases hc
end Go.Ev

namespace Go.Ev
open Go.Lib
variable {P : Program} {G : Nat} {env : Env} {W w : World}

def env0 (G : Nat) : Env := fun id => if id < G then some ⟨id, 0, 0, 0⟩ else none
theorem env0_lt {G id : Nat} {L : Loc} (h : env0 G id = some L) : id < G ∧ L = ⟨id, 0, 0, 0⟩ := by
  unfold env0 at h; split at h
  · rename_i e; cases h; exact ⟨e, rfl⟩
  · cases h
theorem env0_GL (G : Nat) : GL G (env0 G) := fun g h => ⟨⟨g, 0, 0, 0⟩, by simp [env0, h], rfl, rfl⟩

/-- the start: the globals that are laid, and no other block -/
theorem start_SR {H0 : Hp} (hsz : G ≤ W.heap.size) (hH : ∀ g o, H0.get g = some o → g < G ∧ (o = .dead ∨ ∃ ob, W.heap[g]? = some ob ∧ OR (env0 G) ⟨g, 0, 0, 0⟩ o ob)) : SR (env0 G) H0 G W := by
  refine ⟨fun id L o hL ho => ?_, fun id L hL => ?_, fun id id' L L' o o' hL hL' ho ho' _ _ e => ?_, fun id hid => ?_⟩
  · obtain ⟨h1, rfl⟩ := env0_lt hL
    obtain ⟨_, h2⟩ := hH id o ho
    rcases h2 with rfl | h2
    · exact ⟨W.heap[id], by simp [Array.getElem?_eq_getElem (show id < W.heap.size by omega)], trivial⟩
    · exact h2
  · obtain ⟨h1, rfl⟩ := env0_lt hL
    exact ⟨by show id < _; omega, h1⟩
  · obtain ⟨h1, rfl⟩ := env0_lt hL
    obtain ⟨h2, rfl⟩ := env0_lt hL'
    exact e
  · cases h : H0.get id with
    | none => rfl
    | some o => have := (hH id o h).1; omega

def strA (l : List UInt8) : AV := .str (l.map (·.toNat))
def strsA (ls : List (List UInt8)) : AV := AV.ofList (ls.map strA)

theorem VL_ofList : ∀ {l : List AV} {vs : List Value}, l.length = vs.length → (∀ (i : Nat) (x : AV) (v : Value), l[i]? = some x → vs[i]? = some v → VR env x v) → VL env (AV.ofList l) vs
  | [], [], _, _ => rfl
  | [], v :: vs, h, _ => by cases h
  | x :: l, [], h, _ => by cases h
  | x :: l, v :: vs, h, hv => ⟨v, vs, rfl, hv 0 x v rfl rfl, VL_ofList (by simpa using h) (fun i x' v' h1 h2 => hv (i + 1) x' v' (by simpa using h1) (by simpa using h2))⟩

/-- an array of strings that reads so -/
theorem strs_of_array {H : Type} {enc : TypeId × Value → H} {base : Nat} {sp : Nat → Bool} {held : Bool} {fuel : Nat} {t e : TypeId} {n : Nat} {cs : List Value} {ls : List (List UInt8)} {p : List MemPlace} (ht : P.underlying t = some (.array n e)) (he : P.underlying e = some .string) (hce : P.cellsOf e = 1)
    (h : DataW.trod enc P w base sp held fuel t cs = some (.agg (ls.map fun l => .lit (.string l)), p)) (hn : ls.length = n) (hcs : cs.length = n) : VL env (strsA ls) cs := by
  refine VL_ofList (by simp [hn, hcs]) (fun i x v hx hv => ?_)
  have hi : i < n := by
    have := (List.getElem?_eq_some_iff.1 hx).1
    simp at this; omega
  obtain ⟨fuel', d, q, hd, hr⟩ := array_elem ht h i hi
  obtain ⟨s, e1, e2, _⟩ := DataW.trod_string he hr
  rw [hce, Nat.mul_one] at e1
  have e3 := congrArg (·[0]?) e1
  simp only [List.getElem?_take, List.getElem?_drop, Nat.add_zero, List.getElem?_cons_zero] at e3
  simp at e3
  rw [hv] at e3; cases e3
  simp only [List.getElem?_map, Option.map_eq_some_iff] at hx hd
  obtain ⟨l, hl, rfl⟩ := hx
  obtain ⟨l', hl', e5⟩ := hd
  rw [hl] at hl'; cases hl'
  rw [← e5] at e2
  simp only [Prod.mk.injEq, DataW.lit.injEq, Lit.string.injEq] at e2
  exact ⟨s, rfl, by rw [e2.1]⟩

/-- a row of the globals -/
theorem start_row {name : String} {ls : List (List UInt8)} {g t e n : Nat} {z : Array Value} (hr : VarReads P W name (.agg (ls.map fun l => .lit (.string l)))) (hg : P.globalNamed name = some g) (hgl : g < P.globals.size)
    (hty : (P.globals[g]?).map (·.type) = some t) (ht : P.underlying t = some (.array n e)) (he : P.underlying e = some .string) (hce : P.cellsOf e = 1) (hn : ls.length = n)
    (hs : W.ShapedOpen P) (hz : (((begin P (fun _ _ => 0) default).world.heap[g]?).bind Obj.row?) = some (z, t)) (hzs : z.size = n) {c : T AV} (hc : rowOf (strsA ls) = some c) :
    ∃ ob, W.heap[g]? = some ob ∧ OR env ⟨g, 0, 0, 0⟩ (.cells c n 0 t) ob := by
  obtain ⟨cs, h1, h2, _⟩ := hs.1 g z t hgl hz
  obtain ⟨g', t', cs', fuel, p, k1, k2, k3, k4⟩ := hr
  rw [hg] at k1; cases k1
  rw [hty] at k2; cases k2
  have : cs' = cs := by
    simp only [World.var?, hg, Option.bind_some, h1, Option.some.injEq] at k3
    exact k3.symm
  subst this
  have hv : VL env (strsA ls) cs'.toList := strs_of_array ht he hce k4 hn (by simp [h2, hzs])
  have hlen : (strsA ls).len = n := by rw [hv.len]; simp [h2, hzs]
  refine ⟨_, h1, ?_⟩
  have := OR_row (env := env) hc hv g t
  rw [hlen] at this
  exact this

/-- what stands at these places, in a row -/
noncomputable def hpOf : List AO → Nat → Hp → Option Hp
  | [], _, H => some H
  | o :: l, i, H => (match H.put i o with | some H' => hpOf l (i + 1) H' | none => none)
theorem hpOf_get : ∀ {l : List AO} {i : Nat} {H H' : Hp}, hpOf l i H = some H' → ∀ j, H'.get j = if i ≤ j ∧ j < i + l.length then l[j - i]? else H.get j
  | [], i, H, H', h, j => by cases h; simp; omega
  | o :: l, i, H, H', h, j => by
    simp only [hpOf] at h
    split at h
    · rename_i H1 h1
      rw [hpOf_get h j, T.get_put h1]
      simp only [List.length_cons]
      by_cases e : j = i
      · subst e; simp; omega
      · by_cases e2 : i + 1 ≤ j ∧ j < i + 1 + l.length
        · have e3 : i ≤ j ∧ j < i + (l.length + 1) := by omega
          rw [if_pos e2, if_pos e3, show j - i = (j - (i + 1)) + 1 by omega, List.getElem?_cons_succ]
        · have e3 : ¬ (i ≤ j ∧ j < i + (l.length + 1)) := by omega
          rw [if_neg e2, if_neg e3, if_neg e]
    · cases h

def okT (o : VRes) : Bool := match o with | .ok (.bool b) _ _ => b | _ => false
theorem okT_spec {o : VRes} (h : okT o = true) : ∃ H nx, o = .ok (.bool true) H nx := by
  unfold okT at h
  split at h
  · rename_i b H nx; cases h; exact ⟨H, nx, rfl⟩
  · cases h

theorem calls_true {ih : Nat → AV → Hp → Nat → VRes} (hrun : CallOK P G ih) {f : Nat} {fn : Func} (hf : P.funcs[f]? = some fn) (hb : fn.body.isNone = false) (hn : (fn.name == "runtime.NumGoroutine") = false)
    {args : AV} {H0 : Hp} (h : okT (ih f args H0 G) = true) (hs : SR (env0 G) H0 G W) {xs : Array Value} (hv : VL (env0 G) args xs.toList) :
    Calls P f xs W fun e w' => e = .returned (.bool true) ∧ W.heap.size ≤ w'.heap.size ∧ (∀ b, b < W.heap.size → w'.heap[b]? = W.heap[b]?) ∧ w'.os = W.os ∧ w'.tape = W.tape ∧ w'.output = W.output := by
  obtain ⟨H', nx', e⟩ := okT_spec h
  rcases hrun f args H0 G _ H' nx' e (env0 G) W xs (env0_GL G) hv hs with ⟨_, r2⟩ | ⟨c, w', r1, _⟩
  · refine r2.mono ?_
    rintro e w' ⟨c, rfl, env', q1, q2, q3⟩
    simp only [VR] at q1
    subst q1
    exact ⟨rfl, q3.size, fun b hb => q3.frame b hb (fun id L hG hL => absurd (env0_lt hL).1 (by omega)), q3.os, q3.tape, q3.output⟩
  · exfalso
    simp only [callFunc, Sem.run_bind, run_program, Result.andThen_ok, hf, hn, hb, Bool.false_eq_true, if_false, Sem.run_pure] at r1
    cases r1
end Go.Ev
