/- An evaluator of the model, and why what it tells is so (part 3). No condition. -/
import Derived.Test.YtpopoaopohngbaaGreatDoorEv2
import Derived.BigFrame
import Derived.Laws.BytesString
set_option linter.unusedVariables false
set_option linter.unusedSimpArgs false
namespace Go.Ev
variable {P : Program} {G : Nat} {env : Env} {tm : T AV} {a : Act} {H : Hp} {nx : Nat} {w : World}

/-- an operation yields a value at this memory, and leaves it -/
def YldR (P : Program) (a : Act) (env : Env) (o : Oper) (v : AV) (w : World) : Prop := ∃ c, (execOp a.eval o).run P w = .ok (.value c) w ∧ VR env v c

theorem cell_at {b off : Nat} {arr : Array Value} {e : Nat} {fr : Nat × Nat} (h : w.heap[b]? = some (.cells arr e fr)) : w.cell? ⟨b, off, none⟩ = arr[off]? := by simp [World.cell?, h]

theorem load_run {b off : Nat} {arr : Array Value} {e : Nat} {fr : Nat × Nat} (h : w.heap[b]? = some (.cells arr e fr)) {x : Value} (hx : arr[off]? = some x) : (load ⟨b, off, none⟩).run P w = .ok x w := by
  simp [cell_at h, hx]

theorem loadFrom_run {b off : Nat} {arr : Array Value} {e : Nat} {fr : Nat × Nat} (h : w.heap[b]? = some (.cells arr e fr)) : ∀ (n i : Nat) (acc : Array Value), off + i + n ≤ arr.size →
    (loadCellsFrom ⟨b, off, none⟩ i n acc).run P w = .ok (acc ++ arr.extract (off + i) (off + i + n)) w
  | 0, i, acc, _ => by simp [loadCellsFrom]; omega
  | n + 1, i, acc, hl => by
    have hlt : off + i < arr.size := by omega
    have hx : arr[off + i]? = some arr[off + i] := by simp [hlt]
    simp only [loadCellsFrom, Sem.run_bind, add_none, load_run h hx, Result.andThen_ok]
    rw [loadFrom_run h n (i + 1) _ (by omega)]
    congr 1
    apply Array.ext'
    simp only [Array.toList_append, Array.toList_push, Array.toList_extract, List.append_assoc, List.singleton_append]
    congr 1
    have e1 : (arr.toList.extract (off + i) (off + i + (n + 1))) = arr[off + i] :: arr.toList.extract (off + (i + 1)) (off + (i + 1) + n) := by
      simp only [List.extract_eq_take_drop]
      have : off + i + (n + 1) - (off + i) = n + 1 := by omega
      rw [this, show off + (i + 1) + n - (off + (i + 1)) = n by omega]
      rw [List.drop_eq_getElem_cons (by simpa using hlt)]
      simp [Nat.add_assoc]
    rw [e1]

theorem loadCells_run {b off n : Nat} {arr : Array Value} {e : Nat} {fr : Nat × Nat} (h : w.heap[b]? = some (.cells arr e fr)) (hl : off + n ≤ arr.size) : (loadCells ⟨b, off, none⟩ n).run P w = .ok (arr.extract off (off + n)) w := by
  have := loadFrom_run (P := P) (off := off) h n 0 #[] (by omega)
  simpa [loadCells] using this

theorem getCells_sound {c : T AV} {arr : Array Value} {base m : Nat} (hc : ∀ i v, c.get i = some v → i < m ∧ ∃ x, arr[base + i]? = some x ∧ VR env v x) : ∀ {n off : Nat} {l : AV}, getCells c off n = some l →
    (n = 0 ∨ off + n ≤ m) ∧ (n = 0 ∨ base + off + n ≤ arr.size) ∧ VL env l ((arr.toList.drop (base + off)).take n) := by
  intro n
  induction n with
  | zero => intro off l h; simp [getCells] at h; subst h; simp [VL]
  | succ n ih =>
    intro off l h
    simp only [getCells] at h
    split at h
    · rename_i v hv
      split at h
      · rename_i l' hl
        cases h
        obtain ⟨h1, x, hx, hr⟩ := hc off v hv
        obtain ⟨i1, i2, i3⟩ := ih hl
        obtain ⟨hlt, hxe⟩ := Array.getElem?_eq_some_iff.1 hx
        have hs : Nat.succ off = off + 1 := rfl
        rw [hs] at i1 i2 i3
        refine ⟨.inr (by omega), .inr (by omega), ?_⟩
        refine ⟨x, _, ?_, hr, i3⟩
        rw [List.drop_eq_getElem_cons (by simpa using hlt)]
        simp [hxe, Nat.add_assoc]
      · cases h
    · cases h

/-- a row that the abstract memory has -/
theorem SR.cells (hs : SR env H nx w) {id : Nat} {L : Loc} (he : env id = some L) {c : T AV} {n sz e : Nat} (hq : H.get id = some (.cells c n sz e)) :
    ∃ arr fr, w.heap[L.b]? = some (.cells arr e fr) ∧ L.base + n ≤ arr.size ∧ (sz = 0 → L.base = 0 ∧ n = arr.size) ∧ (sz ≠ 0 → L.sz = sz ∧ L.base + L.lim = arr.size) ∧
      (∀ i v, c.get i = some v → i < n ∧ ∃ x, arr[L.base + i]? = some x ∧ VR env v x) ∧ (∀ k, k < arr.size → ¬ (fr.1 ≤ k ∧ k < fr.2)) := by
  obtain ⟨ob, h1, arr, fr, rfl, h2⟩ := hs.obj id L _ he hq
  exact ⟨arr, fr, h1, h2⟩

theorem rdAt_sound (hs : SR env H nx w) {id off n : Nat} {L : Loc} (he : env id = some L) {l : AV} (h : rdAt H id off n = some l) :
    ∃ c m sz e arr fr, H.get id = some (.cells c m sz e) ∧ w.heap[L.b]? = some (.cells arr e fr) ∧ (n = 0 ∨ L.base + off + n ≤ arr.size) ∧ VL env l ((arr.toList.drop (L.base + off)).take n) ∧ (n = 0 ∨ off + n ≤ m) := by
  unfold rdAt at h
  split at h
  · rename_i c m sz e hq
    obtain ⟨arr, fr, h1, h2, h3, h4, h5, h6⟩ := hs.cells he hq
    obtain ⟨g1, g2, g3⟩ := getCells_sound h5 h
    exact ⟨c, m, sz, e, arr, fr, hq, h1, g2, g3, g1⟩
  · cases h

theorem extract_toList {arr : Array Value} {o n : Nat} : (arr.extract o (o + n)).toList = (arr.toList.drop o).take n := by simp

theorem loadCells_VL (hs : SR env H nx w) {id off n : Nat} {L : Loc} (he : env id = some L) {l : AV} (h : rdAt H id off n = some l) :
    ∃ xs : Array Value, (loadCells ⟨L.b, L.base + off, none⟩ n).run P w = .ok xs w ∧ VL env l xs.toList := by
  obtain ⟨c, m, sz, e, arr, fr, _, h1, h2, h3, _⟩ := rdAt_sound hs he h
  rcases Nat.eq_zero_or_pos n with rfl | hn
  · exact ⟨#[], by simp [loadCells, loadCellsFrom], by simpa using h3⟩
  · have h2 : L.base + off + n ≤ arr.size := by omega
    exact ⟨_, loadCells_run h1 h2, by rw [extract_toList]; exact h3⟩

theorem rd_load (hg : GL G env) (ht : TR env tm a.tmps) (hs : SR env H nx w) {t : Nat} {x : Operand} {o : Oper} (ho : o.op = .load t x) {co : COp} (hc : cOp P G o.op = some co) {v : AV} (h : readA P co tm H = some v) : YldR P a env o v w := by
  rw [ho] at hc
  simp only [cOp] at hc
  obtain ⟨x', hx, e⟩ := o1_some hc
  obtain ⟨g, hgg, e⟩ := o1_some e
  cases g with
  | false =>
    cases e
    simp only [readA] at h
    split at h
    · rename_i id off e
      split at h
      · rename_i c m sz el hq
        obtain ⟨L, r1, r2⟩ := opd_sound hg ht hx e
        obtain ⟨arr, fr, h1, h2, h3, h4, h5, h6⟩ := hs.cells r1 hq
        obtain ⟨_, y, hy, ry⟩ := h5 off v h
        exact ⟨y, by simp only [execOp, ho, Instr.loadAt, Sem.run_bind, r2, Instr.sureAddr, Sem.run_pure, Result.andThen_ok, loadVar, isAgg_run hgg, Bool.false_eq_true, if_false, load_run h1 hy], ry⟩
      · cases h
    · cases h
  | true =>
    simp only [cond_true] at e
    obtain ⟨n, hn, e⟩ := o1_some e
    cases e
    simp only [readA] at h
    split at h
    · rename_i id off e
      split at h
      · rename_i l hl
        cases h
        obtain ⟨L, r1, r2⟩ := opd_sound hg ht hx e
        obtain ⟨xs, h1, h2⟩ := loadCells_VL (P := P) hs r1 hl
        exact ⟨.agg xs, by simp only [execOp, ho, Instr.loadAt, Sem.run_bind, r2, Instr.sureAddr, Sem.run_pure, Result.andThen_ok, loadVar, isAgg_run hgg, if_true, sizeOf_run hn, h1], _, rfl, h2⟩
      · cases h
    · cases h

theorem rd_slice (hg : GL G env) (ht : TR env tm a.tmps) (hs : SR env H nx w) {t el s : Nat} {x : Operand} {lo hi mx : Option Operand} {x' : CO} {lo' hi' mx' : Option CO} {o : Oper} (ho : o.op = .slice t x lo hi mx) (hx : opdOf G x = some x') (h1 : opdO G lo = some lo') (h2 : opdO G hi = some hi') (h3 : opdO G mx = some mx')
    (hu : P.underlying t = some (.slice el)) (hsz : tySize P el = some s) (hmx : mx = none ∨ hi ≠ none) {v : AV} (h : readA P (.slice s x' lo' hi' mx') tm H = some v) : YldR P a env o v w := by
  have run : ∀ {ad : Option Addr} {len cap l q m : Nat}, a.eval x = .slice ad len cap → (Instr.sliceBounds true len cap (lo.map a.eval) (hi.map a.eval) (mx.map a.eval)).run P w = .ok (l, q, m) w →
      (execOp a.eval o).run P w = .ok (.value (.slice (if m = l then ad else ad.map (·.add (l * s))) (q - l) (m - l))) w := by
    intro ad len cap l q m e1 e2
    simp only [execOp, ho, Instr.sliceAt, Instr.slice, Sem.run_bind, underlying_run hu, Result.andThen_ok, e1, e2, sizeOf_run hsz, Sem.run_pure]
  have eqb : ∀ {m p : Nat}, Nat.beq m p = decide (m = p) := by intro m p; rw [Bool.eq_iff_iff]; simp
  have ea : ∀ (L : Loc) (off m p : Nat), (if m = p then some (⟨L.b, L.base + off, none⟩ : Addr) else (some (⟨L.b, L.base + off, none⟩ : Addr)).map (·.add (p * s))) = some ⟨L.b, L.base + (bif Nat.beq m p then off else Nat.add off (Nat.mul p s)), none⟩ := by
    intro L off m p
    rw [eqb]
    by_cases hmp : m = p
    · simp [hmp]
    · simp only [hmp, if_false, Option.map_some, add_none, decide_false, cond_false]
      show some (⟨L.b, L.base + off + p * s, none⟩ : Addr) = some ⟨L.b, L.base + (off + p * s), none⟩
      rw [Nat.add_assoc]
  simp only [readA] at h
  split at h
  · rename_i e
    have r1 := opd_sound hg ht hx e
    simp only [VR] at r1
    split at h
    · rename_i e1 e2 e3
      cases h
      have sb := sliceBounds_run (P := P) hg ht true h1 h2 h3 e1 e2 e3 (Nat.le_refl _) (Nat.le_refl _) (Nat.le_refl _) hmx w
      exact ⟨_, run r1 sb, rfl⟩
    · cases h
  · rename_i e
    obtain ⟨ad, c, r1⟩ := opd_sound hg ht hx e
    split at h
    · rename_i e1 e2
      cases h
      rcases opdO_some h3 with ⟨rfl, _⟩ | ⟨_, _, _, r, _⟩
      · have sb := sliceBounds_run (P := P) (mx := none) (mx' := none) (cap := c) (m := c) hg ht true h1 h2 rfl e1 e2 rfl (Nat.le_refl _) (Nat.zero_le _) (Nat.le_refl _) (.inl rfl) w
        refine ⟨_, run r1 sb, ?_⟩
        split
        · exact ⟨ad, c - 0, rfl⟩
        · exact ⟨ad.add (0 * s), c - 0, rfl⟩
      · cases r
    · cases h
  · rename_i id off len k e
    obtain ⟨L, c, r0, r1, rfl⟩ := opd_sound hg ht hx e
    split at h
    · rename_i p q m e1 e2 e3
      cases hb : (Nat.ble p q && Nat.ble q m && Nat.ble m c) with
      | false => rw [hb] at h; cases h
      | true =>
        rw [hb] at h; cases h
        obtain ⟨b1, b2, b3⟩ := conj3 hb
        simp only [Nat.ble_eq] at b1 b2 b3
        have sb := sliceBounds_run (P := P) hg ht true h1 h2 h3 e1 e2 e3 b1 b2 b3 hmx w
        refine ⟨_, run r1 sb, L, _, r0, by rw [ea L off m p]; rfl, rfl⟩
    · cases h
  · rename_i id off len e
    obtain ⟨L, c, r0, r1, r2⟩ := opd_sound hg ht hx e
    simp only at r2
    split at h
    · rename_i cc n sz ee p q hq e1 e2
      cases hb : (Nat.beq sz s && Nat.ble p q && Nat.blt 0 sz) with
      | false => rw [hb] at h; cases h
      | true =>
        rw [hb] at h
        simp only [cond_true] at h
        obtain ⟨hb1, hb2, hb3⟩ := conj3 hb
        simp only [Nat.ble_eq] at hb2
        have hz : sz ≠ 0 := by have : 0 < sz := by simpa using hb3
                               omega
        have hb1 := Nat.eq_of_beq_eq_true hb1
        subst hb1
        obtain ⟨arr, fr, g1, g2, g3, g4, g5, g6⟩ := hs.cells r0 hq
        have hle : sz ≠ 0 → n ≤ off + c * sz := by
          intro hz
          obtain ⟨q1, q2⟩ := g4 hz
          rw [q1] at r2
          omega
        have hle := hle hz
        have capb : ∀ {k : Nat}, off + k * sz ≤ n → k ≤ c := by
          intro k hk
          rcases Nat.lt_or_ge c k with hlt | hge
          · have : (c + 1) * sz ≤ k * sz := Nat.mul_le_mul_right _ hlt
            rw [Nat.add_mul] at this
            omega
          · exact hge
        obtain ⟨q1, q2⟩ := g4 hz
        split at h
        · rcases opdO_some h3 with ⟨rfl, _⟩ | ⟨_, _, _, r, _⟩
          · cases hc1 : Nat.ble (Nat.add off (Nat.mul q sz)) n with
            | false => rw [hc1] at h; cases h
            | true =>
              rw [hc1] at h
              simp only [cond_true] at h
              have hqc : q ≤ c := capb (Nat.le_of_ble_eq_true hc1)
              have sb := sliceBounds_run (P := P) (mx := none) (mx' := none) (cap := c) (m := c) hg ht true h1 h2 rfl e1 e2 rfl hb2 hqc (Nat.le_refl _) (.inl rfl) w
              have rr := run r1 sb
              cases hp0 : Nat.beq p 0 with
              | true =>
                rw [hp0] at h; cases h
                cases Nat.eq_of_beq_eq_true hp0
                refine ⟨_, rr, L, c, r0, ?_, r2⟩
                split <;> simp [add_none]
              | false =>
                rw [hp0] at h
                simp only [cond_false] at h
                cases hpe : Nat.beq (Nat.add off (Nat.mul p sz)) n with
                | true =>
                  rw [hpe] at h; cases h
                  have hpn : off + p * sz = n := Nat.eq_of_beq_eq_true hpe
                  have hqn : off + q * sz ≤ n := Nat.le_of_ble_eq_true hc1
                  have : q = p := by
                    rcases Nat.lt_or_ge p q with hlt | hge
                    · have : (p + 1) * sz ≤ q * sz := Nat.mul_le_mul_right _ hlt
                      rw [Nat.add_mul] at this
                      have : 0 < sz := Nat.pos_of_ne_zero hz
                      omega
                    · omega
                  subst this
                  refine ⟨_, rr, ?_⟩
                  rw [Nat.sub_self]
                  split
                  · exact ⟨_, _, rfl⟩
                  · exact ⟨_, _, rfl⟩
                | false =>
                  rw [hpe] at h; cases h
                  have hpn : ¬ off + p * sz = n := fun e => by
                    have : Nat.beq (Nat.add off (Nat.mul p sz)) n = true := by subst e; exact Nat.beq_refl _
                    rw [hpe] at this; cases this
                  have hpq : p * sz ≤ q * sz := Nat.mul_le_mul_right _ hb2
                  have hqn : off + q * sz ≤ n := Nat.le_of_ble_eq_true hc1
                  have hpc : ¬ c = p := by
                    rintro rfl
                    omega
                  refine ⟨_, rr, L, c - p, r0, ?_, ?_⟩
                  · rw [if_neg hpc]
                    simp only [Option.map_some, add_none]
                    show Value.slice (some ⟨L.b, L.base + off + p * sz, none⟩) _ _ = Value.slice (some ⟨L.b, L.base + (off + p * sz), none⟩) _ _
                    rw [Nat.add_assoc]; rfl
                  · show (off + p * sz) + (c - p) * L.sz = L.lim
                    have hpc' : p ≤ c := Nat.le_trans hb2 hqc
                    rw [q1] at r2 ⊢
                    rw [Nat.sub_mul]
                    have : p * sz ≤ c * sz := Nat.mul_le_mul_right _ hpc'
                    omega
          · cases r
        · rename_i mm
          split at h
          · rename_i m e3
            cases hc1 : (Nat.ble q m && Nat.ble (Nat.add off (Nat.mul m sz)) n) with
            | false => rw [hc1] at h; cases h
            | true =>
              rw [hc1] at h; cases h
              simp only [Bool.and_eq_true] at hc1
              have hmc : m ≤ c := capb (Nat.le_of_ble_eq_true hc1.2)
              have sb := sliceBounds_run (P := P) (cap := c) (m := m) hg ht true h1 h2 h3 e1 e2 e3 hb2 (Nat.le_of_ble_eq_true hc1.1) hmc hmx w
              exact ⟨_, run r1 sb, L, _, r0, by rw [ea L off m p]; rfl, rfl⟩
          · cases h
    · cases h
  · cases h
end Go.Ev

namespace Go.Ev
variable {P : Program} {G : Nat} {env : Env} {tm : T AV} {a : Act} {H : Hp} {nx : Nat} {w : World}

theorem exec_builtin {o : Oper} {c : Call} {b : Builtin} (ho : o.op = .call c) (hb : c.callee = .builtin b) :
    execOp a.eval o = builtin b c.argTypes o.type (c.args.map fun | .const _ => true | _ => false) (c.args.map a.eval) := by
  obtain ⟨cal, xs, ats⟩ := c
  simp only at hb; subst hb
  obtain ⟨d, op, ty, pos, af, gd⟩ := o
  simp only at ho; subst ho
  rfl

theorem opds1 {l : List Operand} {c : CO} (h : opdsOf G l = some [c]) : ∃ x, l = [x] ∧ opdOf G x = some c := by
  cases l with
  | nil => simp [opdsOf] at h
  | cons x l =>
    simp only [opdsOf] at h
    split at h
    · rename_i p q e1 e2
      cases h
      cases l with
      | nil => exact ⟨x, rfl, e1⟩
      | cons y l => simp only [opdsOf] at e2; split at e2 <;> cases e2
    · cases h
theorem opds2 {l : List Operand} {c d : CO} (h : opdsOf G l = some [c, d]) : ∃ x y, l = [x, y] ∧ opdOf G x = some c ∧ opdOf G y = some d := by
  cases l with
  | nil => simp [opdsOf] at h
  | cons x l =>
    simp only [opdsOf] at h
    split at h
    · rename_i p q e1 e2
      cases h
      obtain ⟨y, rfl, hy⟩ := opds1 e2
      exact ⟨x, y, rfl, e1, hy⟩
    · cases h

theorem exec_b1 {o : Oper} {c : Call} {b : Builtin} {x : Operand} {t : Nat} (ho : o.op = .call c) (hb : c.callee = .builtin b) (hx : c.args.toList = [x]) (ht : c.argTypes.toList = [t]) :
    ∃ cs, execOp a.eval o = builtin b #[t] o.type cs #[a.eval x] := by
  have hargs : c.args = #[x] := by rw [← Array.toList_inj]; exact hx
  have hats : c.argTypes = #[t] := by rw [← Array.toList_inj]; exact ht
  refine ⟨_, by rw [exec_builtin ho hb, hargs, hats]; congr 1; simp⟩
theorem exec_b2 {o : Oper} {c : Call} {b : Builtin} {x y : Operand} {ts : List Nat} (ho : o.op = .call c) (hb : c.callee = .builtin b) (hx : c.args.toList = [x, y]) (ht : c.argTypes.toList = ts) :
    ∃ cs, execOp a.eval o = builtin b ts.toArray o.type cs #[a.eval x, a.eval y] := by
  have hargs : c.args = #[x, y] := by rw [← Array.toList_inj]; exact hx
  have hats : c.argTypes = ts.toArray := by rw [← Array.toList_inj]; exact ht
  refine ⟨_, by rw [exec_builtin ho hb, hargs, hats]; congr 1; simp⟩

theorem MR.len {es : List Ent} : ∀ {l : List MapEntry}, MR env es l → es.length = l.length := by
  induction es with
  | nil => rintro l rfl; rfl
  | cons e es ih => rintro l ⟨m, ms, rfl, _, _, _, h⟩; simp [ih h]

theorem SR.map (hs : SR env H nx w) {id : Nat} {L : Loc} (he : env id = some L) {es : List Ent} {c : Nat} (hq : H.get id = some (.map es c)) :
    ∃ arr, w.heap[L.b]? = some (.map arr c) ∧ MR env es arr.toList := by
  obtain ⟨ob, h1, _, arr, rfl, h2⟩ := hs.obj id L _ he hq
  exact ⟨arr, h1, h2⟩

theorem getObj_map {b c : Nat} {arr : Array MapEntry} (h : w.heap[b]? = some (.map arr c)) : (getObj b).run P w = .ok (.map arr c) w := by
  simp [getObj, Sem.run, h]

theorem str_len {s : ByteArray} {l : List Nat} (h : s.data.toList.map (·.toNat) = l) : l.length = s.size := by subst h; simp


theorem rd_len (hg : GL G env) (ht : TR env tm a.tmps) (hs : SR env H nx w) {c : Call} {t : Nat} {x' : CO} {k : EqS} {o : Oper} (ho : o.op = .call c) (hb : c.callee = .builtin .len) (hx : opdsOf G c.args.toList = some [x']) (hts : c.argTypes.toList = [t])
    (hn : (k = .str ∧ P.underlying t = some .string) ∨ (k = .slice ∧ ∃ e, P.underlying t = some (.slice e)) ∨ (k = .map ∧ ∃ j e, P.underlying t = some (.map j e)))
    {v : AV} (h : readA P (.len k x') tm H = some v) : YldR P a env o v w := by
  obtain ⟨x, hl, hx⟩ := opds1 hx
  obtain ⟨cs, hex⟩ := exec_b1 (a := a) ho hb hl hts
  have fin : ∀ {n : Nat}, (Builtin.len_ #[t] o.type #[a.eval x]).run P w = .ok (goInt n) w → v = .int .i64 (.ofNat n) → YldR P a env o v w := by
    intro n e1 e2
    refine ⟨goInt n, ?_, by subst e2; rfl⟩
    rw [hex]
    show (do pure (Next.value (← Builtin.len_ #[t] o.type #[a.eval x])) : Sem Next).run P w = _
    simp [e1]
  simp only [readA] at h
  rcases hn with ⟨rfl, hu⟩ | ⟨rfl, e, hu⟩ | ⟨rfl, j, e, hu⟩
  · split at h <;> first | (cases ‹EqS.str = EqS.slice›; done) | (cases ‹EqS.str = EqS.map›; done) | (cases ‹EqS.slice = EqS.str›; done) | (cases ‹EqS.slice = EqS.map›; done) | (cases ‹EqS.map = EqS.str›; done) | (cases ‹EqS.map = EqS.slice›; done) | skip
    · obtain ⟨s, r1, r2⟩ := opd_sound hg ht hx ‹_›
      cases h
      exact fin (n := s.size) (by simp [Builtin.len_, underlying_run hu, r1]) (by rw [str_len r2])
    · cases h
  · split at h <;> first | (cases ‹EqS.str = EqS.slice›; done) | (cases ‹EqS.str = EqS.map›; done) | (cases ‹EqS.slice = EqS.str›; done) | (cases ‹EqS.slice = EqS.map›; done) | (cases ‹EqS.map = EqS.str›; done) | (cases ‹EqS.map = EqS.slice›; done) | skip
    · have r := opd_sound hg ht hx ‹_›
      simp only [VR] at r
      cases h
      exact fin (n := 0) (by simp [Builtin.len_, underlying_run hu, r]) rfl
    · obtain ⟨ad, cc, r⟩ := opd_sound hg ht hx ‹_›
      cases h
      exact fin (n := 0) (by simp [Builtin.len_, underlying_run hu, r]) rfl
    · obtain ⟨L, cc, _, r, _⟩ := opd_sound hg ht hx ‹_›
      cases h
      exact fin (by simp [Builtin.len_, underlying_run hu, r]) rfl
    · cases h
  · split at h <;> first | (cases ‹EqS.str = EqS.slice›; done) | (cases ‹EqS.str = EqS.map›; done) | (cases ‹EqS.slice = EqS.str›; done) | (cases ‹EqS.slice = EqS.map›; done) | (cases ‹EqS.map = EqS.str›; done) | (cases ‹EqS.map = EqS.slice›; done) | skip
    · have r := opd_sound hg ht hx ‹_›
      simp only [VR] at r
      cases h
      exact fin (n := 0) (by simp [Builtin.len_, underlying_run hu, r]) rfl
    · obtain ⟨L, r1, r2⟩ := opd_sound hg ht hx ‹_›
      split at h
      · rename_i es cl hq
        cases h
        obtain ⟨arr, g1, g2⟩ := hs.map r1 hq
        exact fin (n := arr.size) (by simp [Builtin.len_, underlying_run hu, r2, getObj_map g1]) (by rw [g2.len]; simp)
      · cases h
    · cases h

theorem rd_lenC {c : Call} {t : Nat} {x' : CO} {n e : Nat} {o : Oper} (ho : o.op = .call c) (hb : c.callee = .builtin .len) (hx : opdsOf G c.args.toList = some [x']) (hts : c.argTypes.toList = [t])
    (hn : P.underlying t = some (.array n e) ∨ ∃ ar, P.underlying t = some (.pointer ar) ∧ P.underlying ar = some (.array n e))
    {v : AV} (h : readA P (.lenC n x') tm H = some v) : YldR P a env o v w := by
  obtain ⟨x, hl, hx⟩ := opds1 hx
  obtain ⟨cs, hex⟩ := exec_b1 (a := a) ho hb hl hts
  simp only [readA] at h
  cases h
  refine ⟨goInt n, ?_, rfl⟩
  rw [hex]
  show (do pure (Next.value (← Builtin.len_ #[t] o.type #[a.eval x])) : Sem Next).run P w = _
  rcases hn with hu | ⟨ar, hu, hu'⟩
  · simp [Builtin.len_, underlying_run hu]
  · simp [Builtin.len_, underlying_run hu, underlying_run hu']

theorem rd_cap (hg : GL G env) (ht : TR env tm a.tmps) (hs : SR env H nx w) {c : Call} {t el : Nat} {x' : CO} {o : Oper} (ho : o.op = .call c) (hb : c.callee = .builtin .cap) (hx : opdsOf G c.args.toList = some [x']) (hts : c.argTypes.toList = [t])
    (hu : P.underlying t = some (.slice el)) {v : AV} (h : readA P (.cap x') tm H = some v) : YldR P a env o v w := by
  obtain ⟨x, hl, hx⟩ := opds1 hx
  obtain ⟨cs, hex⟩ := exec_b1 (a := a) ho hb hl hts
  have fin : ∀ {n : Nat}, (Builtin.cap_ #[t] o.type #[a.eval x]).run P w = .ok (goInt n) w → VR env v (goInt n) → YldR P a env o v w := by
    intro n e1 e2
    refine ⟨goInt n, ?_, e2⟩
    rw [hex]
    show (do pure (Next.value (← Builtin.cap_ #[t] o.type #[a.eval x])) : Sem Next).run P w = _
    simp [e1]
  simp only [readA] at h
  split at h
  · rename_i e
    have r := opd_sound hg ht hx e
    simp only [VR] at r
    cases h
    exact fin (n := 0) (by simp [Builtin.cap_, underlying_run hu, r]) rfl
  · rename_i e
    obtain ⟨L, cc, _, r, rfl⟩ := opd_sound hg ht hx e
    cases h
    exact fin (by simp [Builtin.cap_, underlying_run hu, r]) rfl
  · rename_i id off ln e
    obtain ⟨L, cc, r0, r, r2⟩ := opd_sound hg ht hx e
    simp only at r2
    split at h
    · rename_i cl n sz el hq
      cases hb1 : (Nat.blt off n && Nat.blt 0 sz) with
      | false => rw [hb1] at h; cases h
      | true =>
        rw [hb1] at h; cases h
        simp only [Bool.and_eq_true, Nat.blt_eq] at hb1
        obtain ⟨arr, fr, g1, g2, g3, g4, g5, g6⟩ := hs.cells r0 hq
        obtain ⟨q1, q2⟩ := g4 (by omega)
        refine fin (n := cc) (by simp [Builtin.cap_, underlying_run hu, r]) ⟨cc, rfl, fun l hl => ?_, fun l hl => (by cases hl)⟩
        cases hl
        rcases Nat.eq_zero_or_pos cc with rfl | hp
        · omega
        · omega
    · cases h
  · cases h

/-- what a map's keys are -/
def KeyTy (q : EqS) (d : TypeDesc) : Prop := (q = .bool ∧ d = .bool) ∨ (q = .int ∧ ∃ k, d = .int k) ∨ (q = .str ∧ d = .string)
theorem keyKind_ty {t : Nat} {q : EqS} (h : keyKind P t = some q) : ∃ d, P.underlying t = some d ∧ KeyTy q d := by
  unfold keyKind at h
  split at h
  · rename_i e; cases h; exact ⟨_, e, .inl ⟨rfl, rfl⟩⟩
  · rename_i k e; cases h; exact ⟨_, e, .inr (.inl ⟨rfl, _, rfl⟩)⟩
  · rename_i e; cases h; exact ⟨_, e, .inr (.inr ⟨rfl, rfl⟩)⟩
  · cases h
theorem checkKey_run {t : Nat} {d : TypeDesc} {q : EqS} (hd : P.underlying t = some d) (hq : KeyTy q d) (b : Bool) (n : Nat) (v : Value) (w : World) : (Instr.checkKey b (n + 1) t v).run P w = .ok () w := by
  rcases hq with ⟨_, rfl⟩ | ⟨_, k, rfl⟩ | ⟨_, rfl⟩ <;> simp [Instr.checkKey, underlying_run hd]

theorem byteArray_beq (s u : ByteArray) : (s == u) = natsEq (s.data.toList.map (·.toNat)) (u.data.toList.map (·.toNat)) := by
  rw [natsEq_eq, map_toNat_inj]
  show (s.data == u.data) = _
  rw [Bool.eq_iff_iff]
  simp [← Array.toList_inj]

theorem sameNow_sound {q : EqS} {d : TypeDesc} (hq : KeyTy q d) {x y : AV} {b : Bool} (h : eqSA q x y = some b) {u v : Value} (hx : VR env x u) (hy : VR env y v) : Instr.sameNow d u v = some b := by
  rcases hq with ⟨rfl, rfl⟩ | ⟨rfl, k, rfl⟩ | ⟨rfl, rfl⟩ <;> simp only [eqSA] at h
  · split at h
    · rename_i p q; cases hx; cases hy; cases h; cases p <;> cases q <;> rfl
    · cases h
  · split at h
    · rename_i k1 p k2 q
      cases hx; cases hy
      cases hk : Nat.beq (kcode k1) (kcode k2) with
      | false => rw [hk] at h; cases h
      | true => rw [hk] at h; cases h; cases kcode_inj hk; simp [Instr.sameNow, ieq_eq]
    · obtain ⟨n, rfl, hl, hh⟩ := hx
      rename_i lo hi c
      cases hy
      cases hb : (oge lo c || ole hi c) <;> rw [hb] at h <;> cases h
      have := rng_ne hl hh hb
      simp [Instr.sameNow, this]
    · cases h
  · split at h
    · obtain ⟨s, rfl, rfl⟩ := hx; obtain ⟨u, rfl, rfl⟩ := hy; cases h
      simp [Instr.sameNow, byteArray_beq]
    · cases h

theorem findE_sound {q : EqS} {d : TypeDesc} (hq : KeyTy q d) {k : AV} {kc : Value} (hk : VR env k kc) : ∀ {es : List Ent} {arr : List MapEntry} (i : Nat) {r : Option AV}, MR env es arr → findE q k es = some r →
    (r = none → Instr.findNow d kc arr i = some none) ∧ (∀ v, r = some v → ∃ j c m, Instr.findNow d kc arr i = some (some (i + j, c)) ∧ VR env v c ∧ arr[j]? = some m ∧ m.val = c ∧ Instr.sameNow d kc m.key = some true)
  | [], arr, i, r, hm, h => by
    cases hm; simp [findE] at h; subst h
    exact ⟨fun _ => rfl, fun v hv => by cases hv⟩
  | e :: es, arr, i, r, hm, h => by
    obtain ⟨m, ms, rfl, mk, mv, mb, mr⟩ := hm
    simp only [findE] at h
    split at h
    · rename_i e1
      cases h
      have sn := sameNow_sound hq e1 hk mk
      refine ⟨fun hr => (by cases hr), fun v hv => ?_⟩
      cases hv
      exact ⟨0, m.val, m, by simp [Instr.findNow, sn], mv, rfl, rfl, sn⟩
    · rename_i e1
      have sn := sameNow_sound hq e1 hk mk
      obtain ⟨h1, h2⟩ := findE_sound hq hk (i + 1) mr h
      refine ⟨fun hr => by simp [Instr.findNow, sn, h1 hr], fun v hv => ?_⟩
      obtain ⟨j, c, m', f1, f2, f3, f4, f5⟩ := h2 v hv
      exact ⟨j + 1, c, m', by simp only [Instr.findNow, sn, f1]; congr 3; omega, f2, by simpa using f3, f4, f5⟩
    · cases h

theorem rd_lookup (hg : GL G env) (ht : TR env tm a.tmps) (hs : SR env H nx w) {t kt el : Nat} {q : EqS} {z : AV} {ok : Bool} {m k : Operand} {m' k' : CO} {o : Oper} (ho : o.op = .lookup t m k ok) (hu : P.underlying t = some (.map kt el)) (hq : keyKind P kt = some q) (hz : tyZero P el = some z)
    (hm : opdOf G m = some m') (hk : opdOf G k = some k') {v : AV} (h : readA P (.lookup q z ok m' k') tm H = some v) : YldR P a env o v w := by
  obtain ⟨d, hd, hqd⟩ := keyKind_ty hq
  obtain ⟨zv, z1, z2⟩ := zero_run hz w
  simp only [readA] at h
  split at h
  · rename_i mv kv em ek
    have rm := opd_sound hg ht hm em
    have rk := opd_sound hg ht hk ek
    have fin : ∀ {es : Array MapEntry} {r : Option (Nat × Value)}, ((a.eval m = .map none ∧ es = #[]) ∨ ∃ b cl, a.eval m = .map (some b) ∧ w.heap[b]? = some (.map es cl)) →
        Instr.findNow d (a.eval k) es.toList 0 = some r → ∃ c, (match r with | some (_, x) => c = x | none => c = zv) ∧ (execOp a.eval o).run P w = .ok (.value (if ok then .tuple #[c, .bool r.isSome] else c)) w := by
      intro es r e1 e2
      refine ⟨match r with | some (_, x) => x | none => zv, by cases r <;> simp, ?_⟩
      have cr := checkKey_run hd hqd es.isEmpty 9999 (a.eval k) w
      have fk : (Instr.findKey kt (a.eval k) es.toList).run P w = .ok r w := by
        simp only [Instr.findKey, Sem.run_bind, underlying_run hd, Result.andThen_ok, e2, Sem.run_pure]
      have tl : ∀ (r' : Option (Nat × Value)), r' = r → ((do
          let (v, ok') ← match r' with
            | some (_, v) => pure (v, true)
            | none => pure (← zeroValue el, false)
          pure (if ok then Value.tuple #[v, .bool ok'] else v)) : Sem Value).run P w = .ok (if ok then .tuple #[(match r with | some (_, x) => x | none => zv), .bool r.isSome] else (match r with | some (_, x) => x | none => zv)) w := by
        rintro r' rfl
        cases r' with
        | none => simp [z1]
        | some p => simp
      rcases e1 with ⟨e1, rfl⟩ | ⟨b, cl, e1, e3⟩
      · simp only [execOp, ho, Instr.lookup, Sem.run_bind, underlying_run hu, Result.andThen_ok, e1, Sem.run_pure, cr, fk]
        have := tl r rfl
        simp only [Sem.run_bind] at this
        cases r <;> simp_all
      · simp only [execOp, ho, Instr.lookup, Sem.run_bind, underlying_run hu, Result.andThen_ok, e1, getObj_map e3, Sem.run_pure, cr, fk]
        have := tl r rfl
        simp only [Sem.run_bind] at this
        cases r <;> simp_all
    split at h
    · rename_i hf
      cases h
      split at hf
      · rename_i e; cases hf
      · rename_i id
        split at hf
        · rename_i es cl hH
          simp only [VR] at rm
          obtain ⟨L, r1, r2⟩ := rm
          obtain ⟨arr, g1, g2⟩ := hs.map r1 hH
          obtain ⟨_, f2⟩ := findE_sound hqd rk 0 g2 hf
          obtain ⟨j, c, mm, f3, f4, _⟩ := f2 _ rfl
          obtain ⟨cc, e1, e2⟩ := fin (es := arr) (r := some (0 + j, c)) (.inr ⟨_, _, r2, g1⟩) f3
          simp only at e1
          subst e1
          refine ⟨_, e2, ?_⟩
          cases ok
          · exact f4
          · exact pair_VR f4 rfl
        · cases hf
      · cases hf
    · rename_i hf
      cases h
      split at hf
      · simp only [VR] at rm
        obtain ⟨cc, e1, e2⟩ := fin (es := #[]) (r := none) (.inl ⟨rm, rfl⟩) rfl
        simp only at e1
        subst e1
        refine ⟨_, e2, ?_⟩
        cases ok
        · exact z2 env
        · exact pair_VR (z2 env) rfl
      · rename_i id
        split at hf
        · rename_i es cl hH
          simp only [VR] at rm
          obtain ⟨L, r1, r2⟩ := rm
          obtain ⟨arr, g1, g2⟩ := hs.map r1 hH
          obtain ⟨f2, _⟩ := findE_sound hqd rk 0 g2 hf
          obtain ⟨cc, e1, e2⟩ := fin (es := arr) (r := none) (.inr ⟨_, _, r2, g1⟩) (f2 rfl)
          simp only at e1
          subst e1
          refine ⟨_, e2, ?_⟩
          cases ok
          · exact z2 env
          · exact pair_VR (z2 env) rfl
        · cases hf
      · cases hf
    · cases h
  · cases h
end Go.Ev

namespace Go.Ev
variable {P : Program} {G : Nat} {env : Env} {tm : T AV} {a : Act} {H : Hp} {nx : Nat} {w : World}

theorem natsA_sound : ∀ {l : AV} {ns : List Nat} {xs : List Value}, natsA l = some ns → VL env l xs → xs = (ns.map fun n : Nat => (n : Int)).map (Value.int .u8) ∧ ∀ n ∈ ns, n < 256 := by
  intro l
  induction l with
  | cons h t _ iht =>
    rintro ns xs e ⟨x, ys, rfl, hx, hys⟩
    unfold natsA at e
    split at e
    · cases ‹AV.cons h t = AV.nil›
    · rename_i n t' heq
      cases heq
      cases hb : Nat.blt n 256 with
      | false => rw [hb] at e; cases e
      | true =>
        rw [hb] at e
        simp only [cond_true] at e
        split at e
        · rename_i l hl
          cases e
          obtain ⟨h1, h2⟩ := iht hl hys
          cases hx
          have hb : n < 256 := by simpa using hb
          refine ⟨by rw [h1]; rfl, fun k hk => ?_⟩
          rcases List.mem_cons.1 hk with rfl | hk
          · exact hb
          · exact h2 k hk
        · cases e
    · cases e
  | nil => rintro ns xs e rfl; cases e; exact ⟨rfl, fun n hn => by cases hn⟩
  | _ => intro ns xs e h; exact h.elim

theorem push_bytes : ∀ (ns : List Nat) (s : ByteArray), (∀ n ∈ ns, n < 256) → ((ns.map fun n : Nat => (n : Int)).foldl (fun r n => r.push (UInt8.ofNat n.toNat)) s).data.toList.map (·.toNat) = s.data.toList.map (·.toNat) ++ ns
  | [], s, _ => by simp
  | n :: ns, s, h => by
    simp only [List.map_cons, List.foldl_cons]
    rw [push_bytes ns _ (fun k hk => h k (by simp [hk]))]
    have hn : n % 256 = n := Nat.mod_eq_of_lt (h n (by simp))
    have hd : ∀ (b : UInt8), (s.push b).data.toList = s.data.toList ++ [b] := by intro b; simp [ByteArray.push]
    rw [hd]
    simp [hn]

theorem rd_bytesStr (hg : GL G env) (ht : TR env tm a.tmps) (hs : SR env H nx w) {s d e : Nat} {x : Operand} {x' : CO} {o : Oper} (ho : o.op = .convert s d x) (hx : opdOf G x = some x') (h1 : P.underlying s = some (.slice e)) (h2 : P.underlying e = some (.int .u8)) (h3 : P.underlying d = some .string)
    {v : AV} (h : readA P (.bytesStr x') tm H = some v) : YldR P a env o v w := by
  simp only [readA] at h
  split at h
  · rename_i q
    have r := opd_sound hg ht hx q
    simp only [VR] at r
    cases h
    refine ⟨.string .empty, ?_, _, rfl, rfl⟩
    simp [execOp, ho, r, run_convert_bytes_string w s d e none 0 0 h1 h2 h3, Conv.bytesToString]
  · rename_i id off len cap q
    obtain ⟨L, c, r0, r1, _⟩ := opd_sound hg ht hx q
    split at h
    · rename_i l hl
      split at h
      · rename_i ns hns
        cases h
        obtain ⟨xs, l1, l2⟩ := loadCells_VL (P := P) hs r0 hl
        obtain ⟨n1, n2⟩ := natsA_sound hns l2
        have l1' : (loadCells ⟨L.b, L.base + off, none⟩ len).run P w = .ok ((ns.map fun n : Nat => (n : Int)).map (Value.int .u8)).toArray w := by
          rw [l1, ← n1]
        have key := run_bytesToString (P := P) w ⟨L.b, L.base + off, none⟩ len c _ l1'
        refine ⟨_, ?_, _, rfl, push_bytes ns .empty n2⟩
        simp only [execOp, ho, r1, Sem.run_bind, run_convert_bytes_string w s d e _ len c h1 h2 h3, key, Result.andThen_ok, Sem.run_pure]
      · cases h
    · cases h
  · cases h

theorem rd_toStr (hg : GL G env) (ht : TR env tm a.tmps) {s d : Nat} {x : Operand} {x' : CO} {o : Oper} (ho : o.op = .convert s d x) (hx : opdOf G x = some x') (h1 : ∃ k, P.underlying s = some k) (h3 : P.underlying d = some .string)
    {v : AV} (h : readA P (.toStr x') tm H = some v) : YldR P a env o v w := by
  obtain ⟨k, h1⟩ := h1
  simp only [readA] at h
  split at h
  · rename_i l q
    obtain ⟨u, r1, r2⟩ := opd_sound hg ht hx q
    cases h
    refine ⟨.string u, ?_, _, rfl, r2⟩
    simp only [execOp, ho, r1, convert, Sem.run_bind, underlying_run h1, underlying_run h3, Result.andThen_ok]
    rfl
  · rename_i kk n q
    have r := opd_sound hg ht hx q
    simp only [VR] at r
    cases hb : Nat.blt n 128 with
    | false => rw [hb] at h; cases h
    | true =>
      rw [hb] at h; cases h
      have hn : n < 128 := by simpa using hb
      refine ⟨.string (Utf8.encode (n : Int)), ?_, _, rfl, ?_⟩
      · simp only [execOp, ho, r, convert, Sem.run_bind, underlying_run h1, underlying_run h3, Result.andThen_ok, Conv.intToString]
        rfl
      · have hv : Utf8.valid (n : Int) = true := by simp [Utf8.valid]; omega
        have he : Utf8.encode (n : Int) = ⟨#[UInt8.ofNat n]⟩ := by
          unfold Utf8.encode
          simp only [hv, if_true, Int.toNat_natCast]
          rw [if_pos hn]
        rw [he]
        simp
        omega
  · cases h

theorem rd_toUp (hg : GL G env) (ht : TR env tm a.tmps) (hs : SR env H nx w) {s d t m : Nat} {x : Operand} {x' : CO} {o : Oper} (ho : o.op = .convert s d x) (hx : opdOf G x = some x') (h1 : P.underlying s = some (.pointer t)) (h2 : tySize P t = some (m + 1)) (h3 : P.underlying d = some .unsafePointer)
    {v : AV} (h : readA P (.toUp x') tm H = some v) : YldR P a env o v w := by
  simp only [readA] at h
  split at h
  · rename_i q
    have r := opd_sound hg ht hx q
    simp only [VR] at r
    cases h
    exact ⟨.pointer none, by simp [execOp, ho, r, convert, underlying_run h1, underlying_run h3, Conv.unsafePointer], rfl⟩
  · rename_i id off q
    obtain ⟨L, r0, r1⟩ := opd_sound hg ht hx q
    split at h
    · rename_i c n e hq
      cases hb : Nat.blt off n with
      | false => rw [hb] at h; cases h
      | true =>
        rw [hb] at h; cases h
        have hb : off < n := by simpa using hb
        obtain ⟨arr, fr, g1, g2, g3, g4, g5, g6⟩ := hs.cells r0 hq
        have hsh : w.shape? L.b = some (e, arr.size) := by simp [World.shape?, g1]
        have hoff : ¬ (arr.size ≤ L.base + off) := by omega
        refine ⟨.pointer (some ⟨L.b, L.base + off, none⟩), ?_, L, r0, rfl⟩
        have m0 : ¬ (m + 1 = 0) := by omega
        simp [execOp, ho, r1, convert, underlying_run h1, underlying_run h3, Conv.unsafePointer, Conv.seenAt, viewAt, hsh, cellsIn, hoff, sizeOf_run h2]
    · cases h
  · cases h

theorem sameLayout_self (p : Program) (d t : Nat) : sameLayout p (d + 1) t t = true := by simp [sameLayout]

theorem variablesAt_self {b n e m : Nat} {arr : Array Value} {fr : Nat × Nat} (hb : w.heap[b]? = some (.cells arr e fr)) (hs : tySize P e = some (m + 1)) {off : Nat} (ho : off + n * (m + 1) ≤ arr.size) (hd : off % (m + 1) = 0) : (variablesAt ⟨b, off, none⟩ e n).run P w = .ok true w := by
  have hsh : w.shape? b = some (e, arr.size) := by simp [World.shape?, hb]
  have hc : P.cellsOf e = m + 1 := by
    obtain ⟨i, hi, his⟩ := tySize_info hs
    simp [Program.cellsOf, hi, his]
  have hdep : ∃ k, P.depth = k + 1 := ⟨2 * (P.types.size + Made.depth) + 1, rfl⟩
  obtain ⟨k, hk⟩ := hdep
  have hdiv : off / (m + 1) + n ≤ arr.size / (m + 1) := by
    have h1 : (off + n * (m + 1)) / (m + 1) ≤ arr.size / (m + 1) := Nat.div_le_div_right ho
    rw [Nat.add_mul_div_right _ _ (by omega)] at h1
    exact h1
  have : liesAt P P.depth e (arr.size / P.cellsOf e) off e n = true := by
    rw [hk]
    simp only [liesAt]
    rw [hk]
    simp only [rowAt, hc]
    rw [sameLayout_self]
    simp [hd, hdiv]
  simp only [variablesAt, Sem.run_bind, run_program, Result.andThen_ok, run_shape, hsh, Sem.run_pure, this]

theorem rd_fromUp (hg : GL G env) (ht : TR env tm a.tmps) (hs : SR env H nx w) {s d u m : Nat} {x : Operand} {x' : CO} {o : Oper} (ho : o.op = .convert s d x) (hx : opdOf G x = some x') (h1 : P.underlying s = some .unsafePointer) (h2 : tySize P u = some (m + 1)) (h3 : P.underlying d = some (.pointer u))
    {v : AV} (h : readA P (.fromUp u (m + 1) x') tm H = some v) : YldR P a env o v w := by
  simp only [readA] at h
  split at h
  · rename_i q
    have r := opd_sound hg ht hx q
    simp only [VR] at r
    cases h
    exact ⟨.pointer none, by simp [execOp, ho, r, convert, underlying_run h1, underlying_run h3, Conv.unsafePointer], rfl⟩
  · rename_i id q
    obtain ⟨L, r0, r1⟩ := opd_sound hg ht hx q
    split at h
    · rename_i c n e hq
      cases hb : (Nat.beq e u && Nat.ble (m + 1) n) with
      | false => rw [hb] at h; cases h
      | true =>
        rw [hb] at h; cases h
        simp only [Bool.and_eq_true] at hb
        cases Nat.eq_of_beq_eq_true hb.1
        have hb : m + 1 ≤ n := Nat.le_of_ble_eq_true hb.2
        obtain ⟨arr, fr, g1, g2, g3, g4, g5, g6⟩ := hs.cells r0 hq
        obtain ⟨g7, g8⟩ := g3 rfl
        have hsh : w.shape? L.b = some (u, arr.size) := by simp [World.shape?, g1]
        have r1 : a.eval x = .pointer (some ⟨L.b, 0, none⟩) := by simp [r1, g7]
        have va := variablesAt_self (P := P) (w := w) (b := L.b) (n := 1) (off := 0) g1 h2 (by omega) (by simp)
        refine ⟨.pointer (some ⟨L.b, 0, none⟩), ?_, L, r0, by simp [g7]⟩
        simp [execOp, ho, r1, convert, underlying_run h1, underlying_run h3, Conv.unsafePointer, Conv.seenAt, viewAt, hsh, sizeOf_run h2, va]
    · cases h
  · cases h

theorem sd_nil (ats : Array TypeId) (ty : TypeId) (l c : Nat) : Builtin.unsafeSliceData_ ats ty #[.slice none l c] = pure (.pointer none) := rfl
theorem sd_some (ats : Array TypeId) (ty : TypeId) (a : Addr) (l c : Nat) (h : c ≠ 0) : (Builtin.unsafeSliceData_ ats ty #[.slice (some a) l c]).run P w = .ok (.pointer (some a)) w := by
  have : Builtin.unsafeSliceData_ ats ty #[.slice (some a) l c] = (if c ≠ 0 then pure (.pointer (some a)) else do
      if (← viewAt a.block).isSome then pure (.pointer (some a)) else pure (.pointer (some ⟨← newObj (.view a (← elemOf ty)), 0, none⟩))) := rfl
  rw [this, if_pos h]
  rfl

theorem rd_sdata (hg : GL G env) (ht : TR env tm a.tmps) (hs : SR env H nx w) {c : Call} {x' : CO} {o : Oper} (ho : o.op = .call c) (hb : c.callee = .builtin .unsafeSliceData) (hx : opdsOf G c.args.toList = some [x'])
    {v : AV} (h : readA P (.sdata x') tm H = some v) : YldR P a env o v w := by
  obtain ⟨x, hl, hx⟩ := opds1 hx
  have hargs : c.args = #[x] := by rw [← Array.toList_inj]; exact hl
  have fin : ∀ {r : Value}, (Builtin.unsafeSliceData_ c.argTypes o.type #[a.eval x]).run P w = .ok r w → VR env v r → YldR P a env o v w := by
    intro r e1 e2
    refine ⟨r, ?_, e2⟩
    rw [exec_builtin ho hb, hargs]
    have : Array.map a.eval #[x] = #[a.eval x] := by simp
    rw [this]
    show (do pure (Next.value (← Builtin.unsafeSliceData_ c.argTypes o.type #[a.eval x])) : Sem Next).run P w = _
    simp [e1]
  simp only [readA] at h
  split at h
  · rename_i q
    have r := opd_sound hg ht hx q
    simp only [VR] at r
    cases h
    exact fin (r := .pointer none) (by rw [r, sd_nil]; rfl) rfl
  · rename_i id off ln q
    obtain ⟨L, cc, r0, r1, r2⟩ := opd_sound hg ht hx q
    simp only at r2
    split at h
    · rename_i cl n sz el hq
      cases hb1 : (Nat.blt off n && Nat.blt 0 sz) with
      | false => rw [hb1] at h; cases h
      | true =>
        rw [hb1] at h; cases h
        simp only [Bool.and_eq_true, Nat.blt_eq] at hb1
        obtain ⟨arr, fr, g1, g2, g3, g4, g5, g6⟩ := hs.cells r0 hq
        obtain ⟨q1, q2⟩ := g4 (by omega)
        have hc : ¬ cc = 0 := by rintro rfl; omega
        exact fin (r := .pointer (some ⟨L.b, L.base + off, none⟩)) (by rw [r1]; exact sd_some _ _ _ _ _ hc) ⟨L, r0, rfl⟩
    · cases h
  · rename_i id off ln k q
    obtain ⟨L, cc, r0, r1, rfl⟩ := opd_sound hg ht hx q
    cases h
    exact fin (r := .pointer (some ⟨L.b, L.base + off, none⟩)) (by rw [r1]; exact sd_some _ _ _ _ _ (by omega)) ⟨L, r0, rfl⟩
  · cases h
end Go.Ev

namespace Go.Ev
variable {P : Program} {G : Nat} {env : Env} {tm : T AV} {a : Act} {H : Hp} {nx : Nat} {w : World}

set_option maxHeartbeats 4000000 in
theorem read_sound (hg : GL G env) (ht : TR env tm a.tmps) (hs : SR env H nx w) {o : Oper} {co : COp} (hc : cOp P G o.op = some co) (hk : kind co = 1) {v : AV} (h : readA P co tm H = some v) : YldR P a env o v w := by
  cases ho : o.op with
  | load t x => exact rd_load hg ht hs ho hc h
  | lookup t m k ok =>
    rw [ho] at hc
    simp only [cOp] at hc
    split at hc
    · rename_i kt e hu
      obtain ⟨q, hq, e⟩ := o1_some hc
      obtain ⟨z, hz, e⟩ := o1_some e
      obtain ⟨m', hm, e⟩ := o1_some e
      obtain ⟨k', hk', e⟩ := o1_some e
      cases e
      exact rd_lookup hg ht hs ho hu hq hz hm hk' h
    · cases hc
  | slice t x lo hi mx =>
    rw [ho] at hc
    simp only [cOp] at hc
    obtain ⟨x', hx, e⟩ := o1_some hc
    obtain ⟨lo', h1, e⟩ := o1_some e
    obtain ⟨hi', h2, e⟩ := o1_some e
    obtain ⟨mx', h3, e⟩ := o1_some e
    cases hm : (mx'.isSome && !hi'.isSome) with
    | true => rw [hm] at e; cases e
    | false =>
      rw [hm] at e
      simp only [cond_false] at e
      have hmx : mx = none ∨ hi ≠ none := by
        rcases opdO_some h3 with ⟨q, _⟩ | ⟨y, d, q, r, _⟩
        · exact .inl q
        · rcases opdO_some h2 with ⟨q', r'⟩ | ⟨y', d', q', r', _⟩
          · rw [r, r'] at hm; cases hm
          · exact .inr (by rw [q']; intro e; cases e)
      split at e
      · rename_i hu
        cases hms : mx'.isSome <;> rw [hms] at e <;> cases e
        cases hk
      · rename_i el hu
        obtain ⟨s, hs', e⟩ := o1_some e
        cases e
        exact rd_slice hg ht hs ho hx h1 h2 h3 hu hs' hmx h
      · obtain ⟨s, hs, e⟩ := o1_some e
        cases e; cases hk
      · obtain ⟨q, hs, e⟩ := o1_some e
        cases e; cases hk
      · cases e
  | convert s d x =>
    rw [ho] at hc
    simp only [cOp] at hc
    obtain ⟨x', hx, e⟩ := o1_some hc
    unfold cConvert at e
    split at e
    · cases e; cases hk
    · rename_i hs' hd; cases e; exact rd_toStr hg ht ho hx ⟨_, hs'⟩ hd h
    · rename_i k hs' hd; cases e; exact rd_toStr hg ht ho hx ⟨_, hs'⟩ hd h
    · rename_i el hs' hd
      split at e
      · rename_i he; cases e; exact rd_bytesStr hg ht hs ho hx hs' he hd h
      · cases e
    · split at e
      · cases e; cases hk
      · cases e
    · rename_i t hs' hd
      split at e
      · rename_i n hn; cases e; exact rd_toUp hg ht hs ho hx hs' hn hd h
      · cases e
    · rename_i u hs' hd
      split at e
      · rename_i n hn; cases e; exact rd_fromUp hg ht hs ho hx hs' hn hd h
      · cases e
    · cases e
  | call c =>
    rw [ho] at hc
    simp only [cOp] at hc
    obtain ⟨xs, hx, e⟩ := o1_some hc
    split at e
    · rename_i b hb
      unfold cBuiltin at e
      split at e
      · rename_i t x ht'
        split at e
        · rename_i hu; cases e; exact rd_len hg ht hs ho hb hx ht' (.inl ⟨rfl, hu⟩) h
        · rename_i el hu; cases e; exact rd_len hg ht hs ho hb hx ht' (.inr (.inl ⟨rfl, el, hu⟩)) h
        · rename_i k el hu; cases e; exact rd_len hg ht hs ho hb hx ht' (.inr (.inr ⟨rfl, k, el, hu⟩)) h
        · rename_i n el hu; cases e; exact rd_lenC ho hb hx ht' (.inl hu) h
        · rename_i ar hu
          split at e
          · rename_i n el hu'; cases e; exact rd_lenC ho hb hx ht' (.inr ⟨ar, hu, hu'⟩) h
          · cases e
        · cases e
      · rename_i t x ht'
        split at e
        · rename_i el hu; cases e; exact rd_cap hg ht hs ho hb hx ht' hu h
        · cases e
      · exfalso; split at e
        · cases e
        · split at e
          · simp only [cond_eq_ite] at e; split at e <;> cases e; cases hk
          · cases e
        · cases e
      · exfalso; split at e <;> cases e; cases hk
      · exfalso; cases e; cases hk
      · exfalso; cases e; cases hk
      · exfalso; obtain ⟨_, _, e⟩ := o1_some e; cases e; cases hk
      · rename_i x; cases e; exact rd_sdata hg ht hs ho hb hx h
      · exfalso; split at e
        · split at e <;> cases e; cases hk
        · cases e
      · cases e
    · obtain ⟨f, _, e⟩ := o1_some e; cases e; cases hk
    · obtain ⟨f, _, e⟩ := o1_some e; cases e; cases hk
  | move x => exfalso; rw [ho] at hc; simp only [cOp] at hc; obtain ⟨_, _, e⟩ := o1_some hc; cases e; cases hk
  | assign x => exfalso; rw [ho] at hc; simp only [cOp] at hc; obtain ⟨_, _, e⟩ := o1_some hc; cases e; cases hk
  | pick x y z => exfalso; rw [ho] at hc; simp only [cOp] at hc; obtain ⟨_, _, e⟩ := o1_some hc; obtain ⟨_, _, e⟩ := o1_some e; obtain ⟨_, _, e⟩ := o1_some e; cases e; cases hk
  | alloc t => exfalso; rw [ho] at hc; simp only [cOp] at hc; obtain ⟨_, _, e⟩ := o1_some hc; cases e; cases hk
  | box t x => exfalso; rw [ho] at hc; simp only [cOp] at hc; obtain ⟨_, _, e⟩ := o1_some hc; cases e; cases hk
  | nilCheck t => exfalso; rw [ho] at hc; simp only [cOp] at hc; obtain ⟨_, _, e⟩ := o1_some hc; cases e; cases hk
  | next x s => exfalso; rw [ho] at hc; simp only [cOp] at hc; obtain ⟨_, _, e⟩ := o1_some hc; cases e; cases hk
  | extract x s => exfalso; rw [ho] at hc; simp only [cOp] at hc; obtain ⟨_, _, e⟩ := o1_some hc; cases e; cases hk
  | makeFunc f p q => exfalso; rw [ho] at hc; simp only [cOp] at hc; obtain ⟨_, _, e⟩ := o1_some hc; obtain ⟨_, _, e⟩ := o1_some e; cases e; cases hk
  | store t x y => exfalso; rw [ho] at hc; simp only [cOp] at hc; obtain ⟨_, _, e⟩ := o1_some hc; obtain ⟨_, _, e⟩ := o1_some e; obtain ⟨_, _, e⟩ := o1_some e; cases e; cases hk
  | mapUpdate t m k x => exfalso; rw [ho] at hc; simp only [cOp] at hc; obtain ⟨_, _, e⟩ := o1_some hc; obtain ⟨_, _, e⟩ := o1_some e; obtain ⟨_, _, e⟩ := o1_some e; obtain ⟨_, _, e⟩ := o1_some e; cases e; cases hk
  | insert t m k x => exfalso; rw [ho] at hc; simp only [cOp] at hc; obtain ⟨_, _, e⟩ := o1_some hc; obtain ⟨_, _, e⟩ := o1_some e; obtain ⟨_, _, e⟩ := o1_some e; obtain ⟨_, _, e⟩ := o1_some e; cases e; cases hk
  | makeInterface t x => exfalso; rw [ho] at hc; simp only [cOp] at hc; obtain ⟨_, _, e⟩ := o1_some hc; split at e <;> cases e; cases hk
  | binOp op t x y u =>
    exfalso; rw [ho] at hc; simp only [cOp] at hc; obtain ⟨_, _, e⟩ := o1_some hc; obtain ⟨_, _, e⟩ := o1_some e
    cases op <;> first | (obtain ⟨_, _, e⟩ := o1_some e; cases e; cases hk; done) | (cases e; cases hk; done)
  | unOp op t x => exfalso; rw [ho] at hc; simp only [cOp] at hc; obtain ⟨_, _, e⟩ := o1_some hc; cases op <;> first | (cases e; cases hk; done) | (cases e; done)
  | fieldAddr s x f => exfalso; rw [ho] at hc; simp only [cOp] at hc; obtain ⟨_, _, e⟩ := o1_some hc; split at e; obtain ⟨_, _, e⟩ := o1_some e; cases e; cases hk; cases e
  | field t x f =>
    exfalso; rw [ho] at hc; simp only [cOp] at hc; obtain ⟨_, _, e⟩ := o1_some hc; obtain ⟨_, _, e⟩ := o1_some e; obtain ⟨g, _, e⟩ := o1_some e
    cases g
    · cases e; cases hk
    · obtain ⟨_, _, e⟩ := o1_some e; cases e; cases hk
  | indexAddr t x i =>
    exfalso; rw [ho] at hc; simp only [cOp] at hc; obtain ⟨_, _, e⟩ := o1_some hc; obtain ⟨_, _, e⟩ := o1_some e
    split at e
    · obtain ⟨_, _, e⟩ := o1_some e; cases e; cases hk
    · obtain ⟨_, _, e⟩ := o1_some e; cases e; cases hk
    · cases e
  | index t x i =>
    exfalso; rw [ho] at hc; simp only [cOp] at hc; obtain ⟨_, _, e⟩ := o1_some hc; obtain ⟨_, _, e⟩ := o1_some e
    split at e
    · cases e; cases hk
    · obtain ⟨_, _, e⟩ := o1_some e; obtain ⟨g, _, e⟩ := o1_some e; cases g <;> cases e <;> cases hk
    · cases e
  | build t ps =>
    exfalso; rw [ho] at hc; simp only [cOp] at hc
    split at hc
    · rename_i z fs _ _
      cases hsz : sized P fs.toList <;> rw [hsz] at hc
      · cases hc
      · obtain ⟨_, _, e⟩ := o1_some hc; cases e; cases hk
    · obtain ⟨_, _, e⟩ := o1_some hc; obtain ⟨_, _, e⟩ := o1_some e; cases e; cases hk
    · cases hc
  | typeAssert x xt t ok =>
    exfalso; rw [ho] at hc; simp only [cOp] at hc; obtain ⟨_, _, e⟩ := o1_some hc
    split at e
    · cases ok
      · cases e; cases hk
      · obtain ⟨_, _, e⟩ := o1_some e; cases e; cases hk
    · cases ok
      · cases e; cases hk
      · obtain ⟨_, _, e⟩ := o1_some e; cases e; cases hk
    · cases e
  | range t x =>
    exfalso; rw [ho] at hc; simp only [cOp] at hc; obtain ⟨_, _, e⟩ := o1_some hc
    split at e <;> cases e <;> cases hk
  | defer c =>
    exfalso; rw [ho] at hc; simp only [cOp] at hc; obtain ⟨_, _, e⟩ := o1_some hc
    split at e
    · obtain ⟨_, _, e⟩ := o1_some e; cases e; cases hk
    · cases e
  | buildSlice t n ps =>
    exfalso
    rw [ho] at hc
    simp only [cOp] at hc
    obtain ⟨es, _, e⟩ := o1_some hc
    obtain ⟨z, _, e⟩ := o1_some e
    obtain ⟨l, _, e⟩ := o1_some e
    cases hb : (Nat.beq z.len es.2 && Nat.ble (Nat.mul n es.2) 100000 && Nat.blt 0 es.2) <;> rw [hb] at e <;> cases e
    cases hk
  | makeMap t r =>
    exfalso
    rw [ho] at hc
    simp only [cOp] at hc
    split at hc
    · cases hc; cases hk
    · split at hc
      · cases hc; cases hk
      · cases hc
    · cases hc
  | makeSlice t l c =>
    exfalso
    rw [ho] at hc
    simp only [cOp] at hc
    obtain ⟨es, _, e⟩ := o1_some hc
    obtain ⟨z, _, e⟩ := o1_some e
    obtain ⟨l, _, e⟩ := o1_some e
    obtain ⟨l, _, e⟩ := o1_some e
    cases hb : (Nat.beq z.len es.2 && smallBytes P es.1 && Nat.blt 0 es.2) <;> rw [hb] at e <;> cases e
    cases hk
  | _ =>
    exfalso
    rw [ho] at hc
    simp only [cOp] at hc
    cases hc
end Go.Ev

namespace Go.Ev
variable {P : Program} {G : Nat} {env : Env} {tm : T AV} {a : Act} {H : Hp} {nx : Nat} {w : World}

/-- a row of cells: a cons row -/
def AV.isRow : AV → Bool
  | .nil => true
  | .cons _ t => isRow t
  | _ => false

theorem putCells_get : ∀ {l : AV} {c c' : T AV} {i : Nat}, l.isRow = true → putCells c i l = some c' → ∀ j, c'.get j = if i ≤ j ∧ j < i + l.len then l.nth (j - i) else c.get j := by
  intro l
  induction l with
  | cons h t _ iht =>
    intro c c' i hr e j
    simp only [putCells] at e
    split at e
    · rename_i c1 hc1
      have hr' : t.isRow = true := hr
      rw [iht hr' e j]
      have hlen : (AV.cons h t).len = t.len + 1 := rfl
      have hs : Nat.succ i = i + 1 := rfl
      rw [hlen, hs, T.get_put hc1]
      by_cases h1 : j = i
      · subst h1
        have a1 : ¬ (j + 1 ≤ j ∧ j < j + 1 + t.len) := by omega
        have a2 : j ≤ j ∧ j < j + (t.len + 1) := by omega
        rw [if_neg a1, if_pos rfl, if_pos a2, Nat.sub_self]
        rfl
      · rw [if_neg h1]
        by_cases h2 : i + 1 ≤ j ∧ j < i + 1 + t.len
        · have a2 : i ≤ j ∧ j < i + (t.len + 1) := by omega
          rw [if_pos h2, if_pos a2]
          obtain ⟨k, rfl⟩ : ∃ k, j = i + 1 + k := ⟨j - (i + 1), by omega⟩
          rw [show i + 1 + k - (i + 1) = k by omega, show i + 1 + k - i = k + 1 by omega]
          rfl
        · have a2 : ¬ (i ≤ j ∧ j < i + (t.len + 1)) := by omega
          rw [if_neg h2, if_neg a2]
    · cases e
  | nil =>
    intro c c' i _ e j
    simp only [putCells] at e
    cases e
    have : ¬ (i ≤ j ∧ j < i + AV.nil.len) := by show ¬ (i ≤ j ∧ j < i + 0); omega
    rw [if_neg this]
  | _ => intro c c' i hr; cases hr

theorem VL.isRow {x : AV} : ∀ {l : List Value}, VL env x l → x.isRow = true := by
  induction x with
  | cons a b _ ihb => rintro l ⟨x, xs, rfl, _, h⟩; exact ihb h
  | nil => intro l _; rfl
  | _ => intro l h; exact h.elim

theorem VL.lt_of_nth {x : AV} {i : Nat} {v : AV} {l : List Value} (h : VL env x l) (hi : x.nth i = some v) : i < x.len := by
  obtain ⟨c, hc, _⟩ := h.nth hi
  rw [h.len]
  exact (List.getElem?_eq_some_iff.1 hc).1

theorem rowOf_cells {l : AV} {c : T AV} (hr : rowOf l = some c) {arr : Array Value} (hl : VL env l arr.toList) : ∀ i v, c.get i = some v → i < l.len ∧ ∃ x, arr[0 + i]? = some x ∧ VR env v x := by
  intro i v hv
  have := putCells_get hl.isRow hr i
  rw [hv] at this
  simp only [Nat.zero_le, true_and, Nat.zero_add, Nat.sub_zero, T.get_e] at this
  split at this
  · rename_i hlt
    obtain ⟨x, hx, r⟩ := hl.nth this.symm
    exact ⟨hlt, x, by simpa using hx, r⟩
  · cases this

/-- an operation makes one block -/
def Mk (P : Program) (a : Act) (env : Env) (o : Oper) (nx : Nat) (v : AV) (ob : AO) (w : World) : Prop :=
  ∃ c obj w', (execOp a.eval o).run P w = .ok (.value c) w' ∧ w'.heap = w.heap.push obj ∧ w'.os = w.os ∧ w'.tape = w.tape ∧ w'.output = w.output ∧
    ∃ L : Loc, L.b = w.heap.size ∧ ∀ env', Le env env' → env' nx = some L → VR env' v c ∧ OR env' L ob obj

/-- a shut row of cells -/
theorem OR_row {l : AV} {c : T AV} (hr : rowOf l = some c) {arr : Array Value} (hl : VL env l arr.toList) (b e : Nat) : OR env ⟨b, 0, 0, 0⟩ (.cells c l.len 0 e) (.cells arr e (0, 0)) := by
  have hlen := hl.len
  simp only [Array.length_toList] at hlen
  exact ⟨arr, (0, 0), rfl, by simp [hlen], fun _ => ⟨rfl, hlen⟩, fun h => absurd rfl h, rowOf_cells hr hl, fun k _ h => by have := h.2; simp at this⟩

theorem mk_row {o : Oper} {v : AV} {l : AV} {c : T AV} {e : Nat} (hr : rowOf l = some c) {arr : Array Value} (hl : ∀ env', Le env env' → VL env' l arr.toList) {r : Value}
    (hrun : (execOp a.eval o).run P w = .ok (.value r) { w with heap := w.heap.push (.cells arr e) }) (hv : ∀ env', Le env env' → env' nx = some ⟨w.heap.size, 0, 0, 0⟩ → VR env' v r) : Mk P a env o nx v (.cells c l.len 0 e) w :=
  ⟨r, .cells arr e, _, hrun, rfl, rfl, rfl, rfl, ⟨w.heap.size, 0, 0, 0⟩, rfl, fun env' h1 h2 => ⟨hv env' h1 h2, OR_row hr (hl env' h1) _ _⟩⟩

theorem newRow_run (e : Nat) (arr : Array Value) : (newRow e arr).run P w = .ok ⟨w.heap.size, 0, none⟩ { w with heap := w.heap.push (.cells arr e) } := by simp [newRow]

theorem mk_alloc {t : Nat} {o : Oper} (ho : o.op = .alloc t) {z : AV} (hz : tyZeroC P t = some z) {c : T AV} (hc : rowOf z = some c) : Mk P a env o nx (.ptr nx 0) (.cells c z.len 0 t) w := by
  obtain ⟨v, e1, e2⟩ := zeroC_run hz w
  refine mk_row (r := .pointer (some ⟨w.heap.size, 0, none⟩)) hc (fun env' _ => e2 env') ?_ (fun env' _ h => ⟨_, h, rfl⟩)
  simp [execOp, ho, Instr.alloc, e1, newVar, newRow]

theorem mk_box (hg : GL G env) (ht : TR env tm a.tmps) {t : Nat} {x : Operand} {x' : CO} {o : Oper} (ho : o.op = .box t x) (hx : opdOf G x = some x') {v : AV} (hv : opd tm x' = some v) {c : T AV} (hc : rowOf v.cells = some c) : Mk P a env o nx (.ptr nx 0) (.cells c v.cells.len 0 t) w := by
  have r := opd_sound hg ht hx hv
  refine mk_row (r := .pointer (some ⟨w.heap.size, 0, none⟩)) hc (fun env' h => (r.ext h).cells) ?_ (fun env' _ h => ⟨_, h, rfl⟩)
  simp [execOp, ho, Instr.box, newVar, newRow]

theorem AV.rep_isRow {z : AV} (hz : z.isRow = true) : ∀ n, (z.rep n).isRow = true
  | 0 => rfl
  | n + 1 => by
    have ih := rep_isRow hz n
    show (z.app (z.rep n)).isRow = true
    have : ∀ x : AV, x.isRow = true → (x.app (z.rep n)).isRow = true := by
      intro x
      induction x with
      | cons h t _ iht => intro hx; exact iht hx
      | nil => intro _; exact ih
      | _ => intro hx; cases hx
    exact this z hz

theorem rep_VL {z : AV} {zs : List Value} (hz : VL env z zs) : ∀ n, VL env (z.rep n) (List.replicate n zs).flatten
  | 0 => rfl
  | n + 1 => by
    rw [List.replicate_succ, List.flatten_cons]
    exact hz.app (rep_VL hz n)

theorem range_rep (zs : List Value) (f : Nat → Value) (hf : ∀ k, k < zs.length → some (f k) = zs[k]?) (hp : ∀ k, f (zs.length + k) = f k) : ∀ n, (List.range (n * zs.length)).map f = (List.replicate n zs).flatten
  | 0 => by simp
  | n + 1 => by
    rw [List.replicate_succ, List.flatten_cons, ← range_rep zs f hf hp n]
    rw [show (n + 1) * zs.length = zs.length + n * zs.length by rw [Nat.add_mul]; omega, List.range_add, List.map_append, List.map_map]
    congr 1
    · apply List.ext_getElem?
      intro k
      rw [List.getElem?_map]
      by_cases hk : k < zs.length
      · rw [List.getElem?_range hk]; exact hf k hk
      · rw [List.getElem?_eq_none (by simpa using hk), List.getElem?_eq_none (by simpa using hk)]; rfl
    · apply List.map_congr_left
      intro k _
      exact hp k

theorem zeros_list (zero : Array Value) (n : Nat) : ((Array.range (n * zero.size)).map (fun i => zero[i % zero.size]!)).toList = (List.replicate n zero.toList).flatten := by
  rw [Array.toList_map, Array.toList_range]
  have := range_rep zero.toList (fun i => zero[i % zero.size]!) (fun k hk => by
    have hk' : k < zero.size := by simpa using hk
    simp [Nat.mod_eq_of_lt hk', hk']) (fun k => by simp) n
  simpa using this

theorem fill_id : ∀ (place : Nat → Option (Nat × Nat)) (cells : Array Value), Instr.fill place cells [] = some cells := fun _ _ => rfl

theorem zeros_VL {z : AV} {zv : Value} (hz : VL env z zv.cells.toList) {s len : Nat} (h1 : z.len = s) (h0 : 0 < s) (zero : Array Value) (hzero : len * s = 0 ∨ zero = zv.cells) :
    VL env (z.rep len) ((Array.range (len * s)).map (fun i => zero[i % zero.size]!)).toList := by
  have hsz : zv.cells.size = s := by have := hz.len; simp at this; omega
  rcases hzero with h | rfl
  · have : len = 0 := by rcases Nat.mul_eq_zero.1 h with h | h <;> omega
    subst this
    simp [AV.rep, VL]
  · rw [← hsz, zeros_list]
    exact rep_VL hz len

theorem mk_bslice (hg : GL G env) (ht : TR env tm a.tmps) {t e s len : Nat} {ps : Array (Nat × Operand)} {l : List (Nat × Nat × CO)} {o : Oper} (ho : o.op = .buildSlice t len ps) (hs : tySlice P t = some (e, s)) {z : AV} (hz : tyZeroC P e = some z) (hl : partsA G s ps.toList = some l)
    (h1 : z.len = s) (h2 : len * s ≤ 100000) (h3 : 0 < s) {m : AV} (hm : fillL tm (z.rep len) l = some m) {c : T AV} (hc : rowOf m = some c) : Mk P a env o nx (.sl nx 0 len (some len)) (.cells c m.len 0 e) w := by
  obtain ⟨u1, u2⟩ := slice_info hs
  obtain ⟨zv, z1, z2⟩ := zeroC_run hz w
  obtain ⟨p1, p2⟩ := partsA_spec hl
  have e2 : (ps.map fun (x : Nat × Operand) => (x.1, a.eval x.2)).toList = ps.toList.map fun (i, x) => (i, a.eval x) := by simp
  have main : ∀ zero : Array Value, (len * s = 0 ∨ zero = zv.cells) → (∀ cells, Instr.fill (fun i => some (i * s, s)) ((Array.range (len * s)).map (fun i => zero[i % zero.size]!)) (ps.map fun (x : Nat × Operand) => (x.1, a.eval x.2)).toList = some cells →
      (execOp a.eval o).run P w = .ok (.value (.slice (some ⟨w.heap.size, 0, none⟩) len len)) { w with heap := w.heap.push (.cells cells e) }) → Mk P a env o nx (.sl nx 0 len (some len)) (.cells c m.len 0 e) w := by
    intro zero hzero hrun
    have kv : ∀ env', VL env' (z.rep len) ((Array.range (len * s)).map (fun i => zero[i % zero.size]!)).toList := fun env' => zeros_VL (z2 env') h1 h3 zero hzero
    have fs : ∀ env', Le env env' → ∃ cells' : Array Value, Instr.fill (fun i => some (i * s, s)) ((Array.range (len * s)).map (fun i => zero[i % zero.size]!)) (ps.toList.map fun (i, x) => (i, a.eval x)) = some cells' ∧ VL env' m cells'.toList :=
      fun env' hle => fill_sound (hg.ext hle) (ht.ext hle) (fun i => some (i * s, s)) p1 p2 (kv env') hm
    obtain ⟨cells, f1, f2⟩ := fs env (Le.refl _)
    refine mk_row (r := .slice (some ⟨w.heap.size, 0, none⟩) len len) (arr := cells) hc (fun env' h => ?_) (hrun cells (by rw [e2]; exact f1)) (fun env' _ h => ⟨_, _, h, rfl, rfl⟩)
    obtain ⟨cells', g1, g2⟩ := fs env' h
    rw [f1] at g1; cases g1; exact g2
  have hb : ¬ (len * s > 2 ^ 24) := by omega
  by_cases h0 : len * s = 0
  · refine main #[] (.inl h0) (fun cells hf => ?_)
    rw [h0] at hf
    simp only [execOp, ho, Instr.buildSlice, Sem.run_bind, underlying_run u1, Result.andThen_ok, sizeOf_run u2, h0, Nat.not_lt_zero, gt_iff_lt, if_false, if_true, Sem.run_pure, hf]
    simp [newRow, hf]
  · refine main zv.cells (.inr rfl) (fun cells hf => ?_)
    simp only [execOp, ho, Instr.buildSlice, Sem.run_bind, underlying_run u1, Result.andThen_ok, sizeOf_run u2, hb, if_false, h0, Sem.run_pure, z1, hf]
    simp [newRow]

theorem rep1_nth (q : AV) : ∀ (c j : Nat), j < c → ((AV.cons q .nil).rep c).nth j = some q
  | 0, j, h => by omega
  | c + 1, 0, _ => rfl
  | c + 1, j + 1, h => rep1_nth q c j (by omega)

theorem mk_map {t : Nat} {r : Option Operand} {o : Oper} (ho : o.op = .makeMap t r) (hr : r = none ∨ ∃ k n kt e, r = some (.const (.int k n)) ∧ P.underlying t = some (.map kt e)) : Mk P a env o nx (.map nx) (.map [] 0) w := by
  refine ⟨.map (some w.heap.size), .map #[] 0, { w with heap := w.heap.push (.map #[] 0) }, ?_, rfl, rfl, rfl, rfl, ⟨w.heap.size, 0, 0, 0⟩, rfl, fun env' _ h => ⟨⟨_, h, rfl⟩, rfl, #[], rfl, rfl⟩⟩
  rcases hr with rfl | ⟨k, n, kt, e, rfl, hu⟩
  · simp [execOp, ho, Instr.makeMap]
  · simp [execOp, ho, Instr.makeMap, underlying_run hu, asInt, asIntOf, Act.eval]

theorem get_rep_OR {z : AV} {n : Nat} {arr : Array Value} (h : ∀ i, i < n → ∃ x, arr[i]? = some x ∧ VR env z x) : ∀ i v, (T.rep z n n).get i = some v → i < n ∧ ∃ x, arr[0 + i]? = some x ∧ VR env v x := by
  intro i v hv
  obtain ⟨rfl, hi⟩ := T.get_rep z n n i v hv
  obtain ⟨x, h1, h2⟩ := h i hi
  exact ⟨hi, x, by simpa using h1, h2⟩

set_option maxRecDepth 4000 in
theorem mk_slice (hg : GL G env) (ht : TR env tm a.tmps) {t e s : Nat} {lo co : Operand} {lo' co' : CO} {o : Oper} (ho : o.op = .makeSlice t lo co) (hs : tySlice P t = some (e, s)) {z : AV} (hz : tyZeroC P e = some z) (hl : opdOf G lo = some lo') (hc : opdOf G co = some co')
    (h1 : z.len = s) (h2 : smallBytes P e = true) (h3 : 0 < s) {l c : Nat} (el : natOf (opd tm lo') = some l) (ec : natOf (opd tm co') = some c) (hlc : l ≤ c) (hc5 : c ≤ 100000) {tc : T AV} (htc : (∃ z1, z = .cons z1 .nil ∧ tc = T.rep z1 c c) ∨ rowOf (z.rep c) = some tc) :
    Mk P a env o nx (.sl nx 0 l (some c)) (.cells tc (c * s) 0 e) w := by
  obtain ⟨u1, u2⟩ := slice_info hs
  obtain ⟨zv, z1, z2⟩ := zeroC_run hz w
  obtain ⟨k1, v1⟩ := nat_opd hg ht hl el
  obtain ⟨k2, v2⟩ := nat_opd hg ht hc ec
  unfold smallBytes at h2
  split at h2
  case h_2 => cases h2
  rename_i i hi
  have hby : i.bytes ≤ 1000000 := Nat.le_of_ble_eq_true h2
  have hbc : i.bytes * c ≤ 1000000 * 100000 := Nat.mul_le_mul hby hc5
  have wl : IntKind.i64.wrap (l : Int) = l := kwrap_nat .i64 l (by show l ≤ 9223372036854775807; omega)
  have wc : IntKind.i64.wrap (c : Int) = c := kwrap_nat .i64 c (by show c ≤ 9223372036854775807; omega)
  have hcond : ((decide ((c : Int) < 0) || decide (((i.bytes : Nat) : Int) * (c : Int) > 2 ^ 48)) || decide ((l : Int) < 0) || decide ((l : Int) > (c : Int))) = false := by
    have hh : ((i.bytes : Nat) : Int) * (c : Int) ≤ 100000000000 := by rw [← Int.natCast_mul]; generalize i.bytes * c = q at hbc; omega
    simp only [Bool.or_eq_false_iff, decide_eq_false_iff_not]
    refine ⟨⟨⟨by omega, by omega⟩, by omega⟩, by omega⟩
  have main : ∀ zero : Array Value, (c * s = 0 ∨ zero = zv.cells) → (execOp a.eval o).run P w = .ok (.value (.slice (some ⟨w.heap.size, 0, none⟩) l c)) { w with heap := w.heap.push (.cells ((Array.range (c * s)).map (fun i => zero[i % zero.size]!)) e) } →
      Mk P a env o nx (.sl nx 0 l (some c)) (.cells tc (c * s) 0 e) w := by
    intro zero hzero hrun
    have kv : ∀ env', VL env' (z.rep c) ((Array.range (c * s)).map (fun i => zero[i % zero.size]!)).toList := fun env' => zeros_VL (z2 env') h1 h3 zero hzero
    have hsz : ((Array.range (c * s)).map (fun i => zero[i % zero.size]!)).size = c * s := by simp
    refine ⟨_, _, _, hrun, rfl, rfl, rfl, rfl, ⟨w.heap.size, 0, 0, 0⟩, rfl, fun env' _ h => ⟨⟨_, _, h, rfl, rfl⟩, ?_⟩⟩
    refine ⟨_, (0, 0), rfl, by rw [hsz]; simp, fun _ => ⟨rfl, hsz.symm⟩, fun h => absurd rfl h, ?_, fun k _ h => by have := h.2; simp at this⟩
    rcases htc with ⟨q, hq, rfl⟩ | hrow
    · subst hq
      have hs1 : s = 1 := h1.symm
      subst hs1
      rw [Nat.mul_one]
      have key := kv env'
      refine get_rep_OR (fun j hj => ?_)
      have hn := rep1_nth q c j hj
      obtain ⟨x, hx, r⟩ := key.nth hn
      rw [Nat.mul_one] at hx
      exact ⟨x, by rw [← Array.getElem?_toList]; exact hx, r⟩
    · have := rowOf_cells hrow (kv env')
      have hlen := (kv env').len
      simp only [Array.length_toList, hsz] at hlen
      rw [hlen] at this
      exact this
  have c0 : ¬ ((c : Int) < 0) := by omega
  by_cases h0 : c * s = 0
  · refine main #[] (.inl h0) ?_
    simp only [execOp, ho, Instr.makeSlice, Sem.run_bind, underlying_run u1, Result.andThen_ok, v1, v2, asInt, asIntOf, Sem.run_pure, typeInfo, run_program, hi, wl, wc]
    rw [if_neg (by rw [hcond]; simp)]
    simp only [Sem.run_bind, Sem.run_pure, Result.andThen_ok, run_askRoom, Int.toNat_natCast, sizeOf_run u2, h0, if_true]
    simp [newRow, h0]
  · refine main zv.cells (.inr rfl) ?_
    simp only [execOp, ho, Instr.makeSlice, Sem.run_bind, underlying_run u1, Result.andThen_ok, v1, v2, asInt, asIntOf, Sem.run_pure, typeInfo, run_program, hi, wl, wc]
    rw [if_neg (by rw [hcond]; simp)]
    simp only [Sem.run_bind, Sem.run_pure, Result.andThen_ok, run_askRoom, Int.toNat_natCast, sizeOf_run u2, h0, if_false, z1]
    simp [newRow]

theorem bytesA_VL (env : Env) : ∀ l : List Nat, VL env (bytesA l) (l.map fun n : Nat => Value.int .u8 (n : Int))
  | [] => rfl
  | n :: l => ⟨.int .u8 (n : Int), _, rfl, rfl, bytesA_VL env l⟩
theorem bytesA_len : ∀ l : List Nat, (bytesA l).len = l.length
  | [] => rfl
  | _ :: l => by show Nat.succ (bytesA l).len = _; rw [bytesA_len l]; rfl

theorem modify_push {α : Type} (xs : Array α) (x : α) (f : α → α) : (xs.push x).modify xs.size f = xs.push (f x) := by
  apply Array.ext_getElem?
  intro i
  rw [Array.getElem?_modify, Array.getElem?_push, Array.getElem?_push]
  by_cases h : xs.size = i
  · subst h; simp
  · have : ¬ i = xs.size := fun e => h e.symm
    simp [h, this]

theorem mk_bytes (hg : GL G env) (ht : TR env tm a.tmps) {s d e : Nat} {x : Operand} {x' : CO} {o : Oper} (ho : o.op = .convert s d x) (hx : opdOf G x = some x') (h1 : P.underlying s = some .string) (h2 : P.underlying d = some (.slice e)) (h3 : P.underlying e = some (.int .u8))
    {l : List Nat} (hl : opd tm x' = some (.str l)) {c : T AV} (hc : rowOf (bytesA l) = some c) : Mk P a env o nx (.sl nx 0 l.length none) (.cells c l.length 1 e) w := by
  obtain ⟨u, r1, r2⟩ := opd_sound hg ht hx hl
  subst r2
  let cap := (Question.appendCap u.size 0 e).cut (w.tape w.drawn (.appendCap u.size 0 e))
  have hcap : u.size ≤ cap := by show u.size ≤ u.size + _; omega
  let arr : Array Value := u.data.map (fun b => Value.int .u8 b.toNat) ++ Array.replicate (cap - u.size) (.int .u8 0)
  have hsz : arr.size = cap := by simp [arr]; have : u.data.size = u.size := rfl; omega
  have hlen : (u.data.toList.map (·.toNat)).length = u.size := by simp
  refine ⟨.slice (some ⟨w.heap.size, 0, none⟩) u.size cap, .cells arr e (cap, cap + 1), { w with drawn := w.drawn + 1, heap := w.heap.push (.cells arr e (cap, cap + 1)) }, ?_, rfl, rfl, rfl, rfl, ⟨w.heap.size, 0, cap, 1⟩, rfl, fun env' _ h => ⟨?_, ?_⟩⟩
  · have fz : ∀ (w' : World), w'.heap = w.heap.push (.cells arr e) → (markStringish ⟨w.heap.size, 0, none⟩).run P w' = .ok () { w' with heap := w.heap.push (.cells arr e (cap, cap + 1)) } := by
      intro w' hw'
      have hsh : w'.shape? w.heap.size = some (e, cap) := by simp [World.shape?, hw', hsz]
      simp only [markStringish, Sem.run_bind, run_shape, hsh, Result.andThen_ok, run_freeze]
      congr 1
      simp only [World.freeze, hw', modify_push]
      simp
    simp only [execOp, ho, r1, convert, Sem.run_bind, underlying_run h1, underlying_run h2, underlying_run h3, Result.andThen_ok, Conv.stringToBytes]
    simp only [run_choose, Question.forced, Bool.false_eq_true, if_false, Result.andThen_ok, newRow_run]
    rw [fz _ rfl]
    simp only [Result.andThen_ok, Sem.run_pure]
    rfl
  · rw [hlen]; exact ⟨_, _, h, rfl, by show 0 + cap * 1 = cap; omega⟩
  · rw [hlen]
    refine ⟨arr, (cap, cap + 1), rfl, by show 0 + u.size ≤ arr.size; omega, fun h => (by cases h), fun _ => ⟨rfl, by show 0 + cap = arr.size; omega⟩, ?_, fun k hk h => by have := h.1; simp only at this; omega⟩
    intro i v hv
    have hr := putCells_get (bytesA_VL env' (u.data.toList.map (fun b : UInt8 => b.toNat))).isRow hc i
    rw [hv] at hr
    simp only [Nat.zero_le, true_and, Nat.zero_add, Nat.sub_zero, T.get_e] at hr
    split at hr
    · rename_i hlt
      rw [bytesA_len, hlen] at hlt
      obtain ⟨x, hx, r⟩ := (bytesA_VL env' (u.data.toList.map (fun b : UInt8 => b.toNat))).nth hr.symm
      refine ⟨hlt, x, ?_, r⟩
      have e1 : arr[0 + i]? = (u.data.map (fun b => Value.int .u8 b.toNat))[i]? := by
        simp only [arr, Nat.zero_add]
        rw [Array.getElem?_append_left (by simpa using hlt)]
      rw [e1]
      simpa using hx
    · cases hr
end Go.Ev

namespace Go.Ev
variable {P : Program} {G : Nat} {env : Env} {tm : T AV} {a : Act} {H : Hp} {nx : Nat} {w : World}

set_option maxHeartbeats 4000000 in
theorem new_sound (hg : GL G env) (ht : TR env tm a.tmps) {o : Oper} {co : COp} (hc : cOp P G o.op = some co) (hk : kind co = 2) {v : AV} {ob : AO} (h : newA co tm nx = some (v, ob)) : Mk P a env o nx v ob w := by
  cases ho : o.op with
  | alloc t =>
    rw [ho] at hc
    simp only [cOp] at hc
    obtain ⟨z, hz, e⟩ := o1_some hc
    cases e
    simp only [newA] at h
    split at h
    · rename_i c hr; cases h; exact mk_alloc ho hz hr
    · cases h
  | box t x =>
    rw [ho] at hc
    simp only [cOp] at hc
    obtain ⟨x', hx, e⟩ := o1_some hc
    cases e
    simp only [newA] at h
    split at h
    · rename_i v hv
      split at h
      · rename_i c hr; cases h; exact mk_box hg ht ho hx hv hr
      · cases h
    · cases h
  | buildSlice t n ps =>
    rw [ho] at hc
    simp only [cOp] at hc
    obtain ⟨⟨el, s⟩, hes, e⟩ := o1_some hc
    simp only at e
    obtain ⟨z, hz, e⟩ := o1_some e
    obtain ⟨l, hl, e⟩ := o1_some e
    cases hb : (Nat.beq z.len s && Nat.ble (Nat.mul n s) 100000 && Nat.blt 0 s) <;> rw [hb] at e <;> cases e
    obtain ⟨b1, b2, b3⟩ := conj3 hb
    simp only [newA] at h
    split at h
    · rename_i m hm
      split at h
      · rename_i c hr; cases h
        exact mk_bslice hg ht ho hes hz hl (Nat.eq_of_beq_eq_true b1) (Nat.le_of_ble_eq_true b2) (by simpa using b3) hm hr
      · cases h
    · cases h
  | makeMap t r =>
    rw [ho] at hc
    simp only [cOp] at hc
    split at hc
    · cases hc; cases h; exact mk_map ho (.inl rfl)
    · rename_i k n
      split at hc
      · rename_i kt e hu; cases hc; cases h; exact mk_map ho (.inr ⟨k, n, kt, e, rfl, hu⟩)
      · cases hc
    · cases hc
  | makeSlice t l c =>
    rw [ho] at hc
    simp only [cOp] at hc
    obtain ⟨⟨el, s⟩, hes, e⟩ := o1_some hc
    simp only at e
    obtain ⟨z, hz, e⟩ := o1_some e
    obtain ⟨l', hl, e⟩ := o1_some e
    obtain ⟨c', hcc, e⟩ := o1_some e
    cases hb : (Nat.beq z.len s && smallBytes P el && Nat.blt 0 s) <;> rw [hb] at e <;> cases e
    obtain ⟨b1, b2, b3⟩ := conj3 hb
    simp only [newA] at h
    split at h
    · rename_i l c e1 e2
      cases hb2 : (Nat.ble l c && Nat.ble c 100000) <;> rw [hb2] at h
      · cases h
      · simp only [Bool.and_eq_true] at hb2
        have fin : ∀ tc, ((∃ z1, z = .cons z1 .nil ∧ tc = T.rep z1 c c) ∨ rowOf (z.rep c) = some tc) → Mk P a env o nx (.sl nx 0 l (some c)) (.cells tc (c * s) 0 el) w := fun tc htc =>
          mk_slice hg ht ho hes hz hl hcc (Nat.eq_of_beq_eq_true b1) b2 (by simpa using b3) e1 e2 (Nat.le_of_ble_eq_true hb2.1) (Nat.le_of_ble_eq_true hb2.2) htc
        simp only [cond_true] at h
        split at h
        · cases h
          have hs1 : s = 1 := (Nat.eq_of_beq_eq_true b1).symm
          have := fin _ (.inl ⟨_, rfl, rfl⟩)
          rw [hs1, Nat.mul_one] at this
          exact this
        · split at h
          · rename_i tc htc; cases h; exact fin tc (.inr htc)
          · cases h
    · cases h
  | convert s d x =>
    rw [ho] at hc
    simp only [cOp] at hc
    obtain ⟨x', hx, e⟩ := o1_some hc
    unfold cConvert at e
    split at e
    · cases e; cases hk
    · cases e; cases hk
    · cases e; cases hk
    · split at e
      · cases e; cases hk
      · cases e
    · rename_i el hs' hd
      split at e
      · rename_i he
        cases e
        simp only [newA] at h
        split at h
        · rename_i l hl
          split at h
          · rename_i c hr; cases h; exact mk_bytes hg ht ho hx hs' hd he hl hr
          · cases h
        · cases h
      · cases e
    · split at e
      · cases e; cases hk
      · cases e
    · split at e
      · cases e; cases hk
      · cases e
    · cases e
  | slice t x lo hi mx =>
    exfalso
    rw [ho] at hc
    simp only [cOp] at hc
    obtain ⟨x', hx, e⟩ := o1_some hc
    obtain ⟨lo', h1, e⟩ := o1_some e
    obtain ⟨hi', h2, e⟩ := o1_some e
    obtain ⟨mx', h3, e⟩ := o1_some e
    cases hm : (mx'.isSome && !hi'.isSome) <;> rw [hm] at e
    · simp only [cond_false] at e
      split at e
      · cases hms : mx'.isSome <;> rw [hms] at e <;> cases e
        cases hk
      · obtain ⟨s, _, e⟩ := o1_some e; cases e; cases hk
      · obtain ⟨s, _, e⟩ := o1_some e; cases e; cases hk
      · obtain ⟨s, _, e⟩ := o1_some e; cases e; cases hk
      · cases e
    · cases e
  | call c =>
    exfalso
    rw [ho] at hc
    simp only [cOp] at hc
    obtain ⟨xs, _, e⟩ := o1_some hc
    split at e
    · rcases cBuiltin_kind e with q | q <;> rw [hk] at q <;> cases q
    · obtain ⟨f, _, e⟩ := o1_some e; cases e; cases hk
    · obtain ⟨f, _, e⟩ := o1_some e; cases e; cases hk
  | load t x =>
    exfalso
    rw [ho] at hc
    simp only [cOp] at hc
    obtain ⟨x', _, e⟩ := o1_some hc
    obtain ⟨g, _, e⟩ := o1_some e
    cases g
    · cases e; cases hk
    · obtain ⟨n, _, e⟩ := o1_some e; cases e; cases hk
  | lookup t m k ok =>
    exfalso
    rw [ho] at hc
    simp only [cOp] at hc
    split at hc
    · obtain ⟨_, _, e⟩ := o1_some hc
      obtain ⟨_, _, e⟩ := o1_some e
      obtain ⟨_, _, e⟩ := o1_some e
      obtain ⟨_, _, e⟩ := o1_some e
      cases e; cases hk
    · cases hc
  | store t x y =>
    exfalso
    rw [ho] at hc
    simp only [cOp] at hc
    obtain ⟨_, _, e⟩ := o1_some hc
    obtain ⟨_, _, e⟩ := o1_some e
    obtain ⟨_, _, e⟩ := o1_some e
    cases e; cases hk
  | mapUpdate t m k x =>
    exfalso
    rw [ho] at hc
    simp only [cOp] at hc
    obtain ⟨_, _, e⟩ := o1_some hc
    obtain ⟨_, _, e⟩ := o1_some e
    obtain ⟨_, _, e⟩ := o1_some e
    obtain ⟨_, _, e⟩ := o1_some e
    cases e; cases hk
  | insert t m k x =>
    exfalso
    rw [ho] at hc
    simp only [cOp] at hc
    obtain ⟨_, _, e⟩ := o1_some hc
    obtain ⟨_, _, e⟩ := o1_some e
    obtain ⟨_, _, e⟩ := o1_some e
    obtain ⟨_, _, e⟩ := o1_some e
    cases e; cases hk
  | range t x =>
    exfalso
    rw [ho] at hc
    simp only [cOp] at hc
    obtain ⟨_, _, e⟩ := o1_some hc
    split at e
    · cases e; cases hk
    · cases e; cases hk
    · cases e
  | next x s =>
    exfalso
    rw [ho] at hc
    simp only [cOp] at hc
    obtain ⟨_, _, e⟩ := o1_some hc
    cases e; cases hk
  | defer c =>
    exfalso
    rw [ho] at hc
    simp only [cOp] at hc
    obtain ⟨_, _, e⟩ := o1_some hc
    split at e
    · obtain ⟨_, _, e⟩ := o1_some e; cases e; cases hk
    · cases e
  | move x => exfalso; rw [ho] at hc; simp only [cOp] at hc; obtain ⟨_, _, e⟩ := o1_some hc; cases e; cases hk
  | assign x => exfalso; rw [ho] at hc; simp only [cOp] at hc; obtain ⟨_, _, e⟩ := o1_some hc; cases e; cases hk
  | pick x y z => exfalso; rw [ho] at hc; simp only [cOp] at hc; obtain ⟨_, _, e⟩ := o1_some hc; obtain ⟨_, _, e⟩ := o1_some e; obtain ⟨_, _, e⟩ := o1_some e; cases e; cases hk
  | nilCheck t => exfalso; rw [ho] at hc; simp only [cOp] at hc; obtain ⟨_, _, e⟩ := o1_some hc; cases e; cases hk
  | extract x s => exfalso; rw [ho] at hc; simp only [cOp] at hc; obtain ⟨_, _, e⟩ := o1_some hc; cases e; cases hk
  | makeFunc f p q => exfalso; rw [ho] at hc; simp only [cOp] at hc; obtain ⟨_, _, e⟩ := o1_some hc; obtain ⟨_, _, e⟩ := o1_some e; cases e; cases hk
  | makeInterface t x => exfalso; rw [ho] at hc; simp only [cOp] at hc; obtain ⟨_, _, e⟩ := o1_some hc; split at e <;> cases e; cases hk
  | binOp op t x y u =>
    exfalso; rw [ho] at hc; simp only [cOp] at hc; obtain ⟨_, _, e⟩ := o1_some hc; obtain ⟨_, _, e⟩ := o1_some e
    cases op <;> first | (obtain ⟨_, _, e⟩ := o1_some e; cases e; cases hk; done) | (cases e; cases hk; done)
  | unOp op t x => exfalso; rw [ho] at hc; simp only [cOp] at hc; obtain ⟨_, _, e⟩ := o1_some hc; cases op <;> first | (cases e; cases hk; done) | (cases e; done)
  | fieldAddr s x f => exfalso; rw [ho] at hc; simp only [cOp] at hc; obtain ⟨_, _, e⟩ := o1_some hc; split at e; obtain ⟨_, _, e⟩ := o1_some e; cases e; cases hk; cases e
  | field t x f =>
    exfalso; rw [ho] at hc; simp only [cOp] at hc; obtain ⟨_, _, e⟩ := o1_some hc; obtain ⟨_, _, e⟩ := o1_some e; obtain ⟨g, _, e⟩ := o1_some e
    cases g
    · cases e; cases hk
    · obtain ⟨_, _, e⟩ := o1_some e; cases e; cases hk
  | indexAddr t x i =>
    exfalso; rw [ho] at hc; simp only [cOp] at hc; obtain ⟨_, _, e⟩ := o1_some hc; obtain ⟨_, _, e⟩ := o1_some e
    split at e
    · obtain ⟨_, _, e⟩ := o1_some e; cases e; cases hk
    · obtain ⟨_, _, e⟩ := o1_some e; cases e; cases hk
    · cases e
  | index t x i =>
    exfalso; rw [ho] at hc; simp only [cOp] at hc; obtain ⟨_, _, e⟩ := o1_some hc; obtain ⟨_, _, e⟩ := o1_some e
    split at e
    · cases e; cases hk
    · obtain ⟨_, _, e⟩ := o1_some e; obtain ⟨g, _, e⟩ := o1_some e; cases g <;> cases e <;> cases hk
    · cases e
  | build t ps =>
    exfalso; rw [ho] at hc; simp only [cOp] at hc
    split at hc
    · rename_i z fs _ _
      cases hsz : sized P fs.toList <;> rw [hsz] at hc
      · cases hc
      · obtain ⟨_, _, e⟩ := o1_some hc; cases e; cases hk
    · obtain ⟨_, _, e⟩ := o1_some hc; obtain ⟨_, _, e⟩ := o1_some e; cases e; cases hk
    · cases hc
  | typeAssert x xt t ok =>
    exfalso; rw [ho] at hc; simp only [cOp] at hc; obtain ⟨_, _, e⟩ := o1_some hc
    split at e
    · cases ok
      · cases e; cases hk
      · obtain ⟨_, _, e⟩ := o1_some e; cases e; cases hk
    · cases ok
      · cases e; cases hk
      · obtain ⟨_, _, e⟩ := o1_some e; cases e; cases hk
    · cases e
  | _ =>
    exfalso
    rw [ho] at hc
    simp only [cOp] at hc
    cases hc
end Go.Ev

namespace Go.Ev
variable {P : Program} {G : Nat} {env : Env} {tm : T AV} {a : Act} {H : Hp} {nx : Nat} {w : World}

theorem oneA_cell {v : AV} (h : oneA v = true) {x : Value} (hx : VR env v x) : x.oneCell' = true := by
  cases v <;> simp only [oneA] at h <;> first
    | (cases h; done)
    | (simp only [VR] at hx; subst hx; rfl)
    | (obtain ⟨_, rfl, _⟩ := hx; rfl)
    | (obtain ⟨_, _, rfl⟩ := hx; rfl)
    | (obtain ⟨_, _, _, rfl, _⟩ := hx; rfl)
    | (obtain ⟨_, _, rfl, _⟩ := hx; rfl)
    | (cases x <;> first | rfl | (simp [VR, Value.oneCell] at hx; done))

theorem allOne_cells : ∀ {l : AV} {xs : List Value}, allOne l = true → VL env l xs → ∀ x ∈ xs, x.oneCell' = true := by
  intro l
  induction l with
  | cons h t _ iht =>
    rintro xs e ⟨y, ys, rfl, hy, hys⟩ x hx
    simp only [allOne] at e
    cases ho : oneA h with
    | false => rw [ho] at e; cases e
    | true =>
      rw [ho] at e
      rcases List.mem_cons.1 hx with rfl | hx
      · exact oneA_cell ho hy
      · exact iht e hys x hx
  | nil => rintro xs _ rfl x hx; cases hx
  | _ => intro xs _ h; exact h.elim

theorem setCell_heap {b off : Nat} {arr : Array Value} {e : Nat} {fr : Nat × Nat} (h : w.heap[b]? = some (.cells arr e fr)) (v : Value) :
    (w.setCell ⟨b, off, none⟩ v).heap.size = w.heap.size ∧ (∀ k, k ≠ b → (w.setCell ⟨b, off, none⟩ v).heap[k]? = w.heap[k]?) ∧ (w.setCell ⟨b, off, none⟩ v).heap[b]? = some (.cells (arr.setIfInBounds off v) e fr) := by
  refine ⟨by simp [World.setCell], fun k hk => ?_, ?_⟩
  · have : ¬ b = k := fun e => hk e.symm
    simp [World.setCell, Array.getElem?_modify, this]
  · simp [World.setCell, Array.getElem?_modify, h]

theorem storeCells_run {b off : Nat} {e : Nat} {fr : Nat × Nat} : ∀ (vs : List Value) (i : Nat) (w : World) (arr : Array Value), w.heap[b]? = some (.cells arr e fr) → off + i + vs.length ≤ arr.size → (∀ x ∈ vs, x.oneCell' = true) → (∀ k, k < arr.size → ¬ (fr.1 ≤ k ∧ k < fr.2)) →
    ∃ w' arr', (storeCells ⟨b, off, none⟩ vs i).run P w = .ok () w' ∧ w'.heap.size = w.heap.size ∧ (∀ k, k ≠ b → w'.heap[k]? = w.heap[k]?) ∧ w'.heap[b]? = some (.cells arr' e fr) ∧ arr'.size = arr.size ∧
      (∀ k, arr'[k]? = if off + i ≤ k ∧ k < off + i + vs.length then vs[k - (off + i)]? else arr[k]?) ∧ w'.os = w.os ∧ w'.tape = w.tape ∧ w'.output = w.output
  | [], i, w, arr, h, _, _, _ => by
    refine ⟨w, arr, rfl, rfl, fun _ _ => rfl, h, rfl, fun k => ?_, rfl, rfl, rfl⟩
    have : ¬ (off + i ≤ k ∧ k < off + i + ([] : List Value).length) := by simp only [List.length_nil]; omega
    rw [if_neg this]
  | v :: vs, i, w, arr, h, hl, h1, hf => by
    simp only [List.length_cons] at hl
    have hlt : off + i < arr.size := by omega
    have hc : w.cell? ⟨b, off + i, none⟩ = some arr[off + i] := by rw [cell_at h]; simp [hlt]
    have hfz : w.frozen? ⟨b, off + i, none⟩ = false := by
      obtain ⟨lo, hi⟩ := fr
      simp only [World.frozen?, h]
      have := hf (off + i) hlt
      simp only [Bool.and_eq_false_imp, decide_eq_true_eq, decide_eq_false_iff_not]
      intro q r; exact this ⟨q, r⟩
    obtain ⟨s1, s2, s3⟩ := setCell_heap (off := off + i) h v
    obtain ⟨w', arr', r1, r2, r3, r4, r5, r6, r7, r8, r9⟩ := storeCells_run (off := off) vs (i + 1) (w.setCell ⟨b, off + i, none⟩ v) (arr.setIfInBounds (off + i) v) s3 (by simp; omega) (fun x hx => h1 x (by simp [hx])) (fun k hk => hf k (by simpa using hk))
    refine ⟨w', arr', ?_, by rw [r2, s1], fun k hk => by rw [r3 k hk, s2 k hk], r4, by rw [r5]; simp, fun k => ?_, by rw [r7]; rfl, by rw [r8]; rfl, by rw [r9]; rfl⟩
    · simp only [storeCells, Sem.run_bind, add_none]
      rw [run_store P w _ v .plain (h1 v (by simp))]
      simp only [hc, hfz, Bool.false_eq_true, if_false, Result.andThen_ok]
      exact r1
    · rw [r6 k]
      simp only [List.length_cons]
      by_cases c1 : off + (i + 1) ≤ k ∧ k < off + (i + 1) + vs.length
      · have c2 : off + i ≤ k ∧ k < off + i + (vs.length + 1) := by omega
        rw [if_pos c1, if_pos c2]
        obtain ⟨j, rfl⟩ : ∃ j, k = off + (i + 1) + j := ⟨k - (off + (i + 1)), by omega⟩
        rw [show off + (i + 1) + j - (off + (i + 1)) = j by omega, show off + (i + 1) + j - (off + i) = j + 1 by omega]
        simp
      · rw [if_neg c1]
        by_cases c3 : k = off + i
        · subst c3
          have c2 : off + i ≤ off + i ∧ off + i < off + i + (vs.length + 1) := by omega
          rw [if_pos c2]
          simp [hlt]
        · have c2 : ¬ (off + i ≤ k ∧ k < off + i + (vs.length + 1)) := by omega
          rw [if_neg c2]
          rw [Array.getElem?_setIfInBounds_ne (fun e => c3 e.symm)]

/-- a row is laid over a row that is there -/
theorem wrAt_sound (hs : SR env H nx w) {id off : Nat} {L : Loc} (he : env id = some L) {l : AV} {H' : Hp} (h : wrAt G H id off l = some H') {xs : List Value} (hl : VL env l xs) :
    ∃ w', (storeCells ⟨L.b, L.base + off, none⟩ xs).run P w = .ok () w' ∧ SR env H' nx w' ∧ Tr G env H nx w env H' nx w' := by
  unfold wrAt at h
  split at h
  · rename_i c n sz e hq
    cases hb : (Nat.ble G id && Nat.ble (Nat.add off l.len) n && allOne l) <;> rw [hb] at h
    · cases h
    · simp only [cond_true] at h
      obtain ⟨b1, b2, b3⟩ := conj3 hb
      have b1 := Nat.le_of_ble_eq_true b1
      have b2 : off + l.len ≤ n := Nat.le_of_ble_eq_true b2
      split at h
      · rename_i c' hc'
        obtain ⟨arr, fr, g1, g2, g3, g4, g5, g6⟩ := hs.cells he hq
        have hlen := hl.len
        obtain ⟨w', arr', r1, r2, r3, r4, r5, r6, r7, r8, r9⟩ := storeCells_run (P := P) (off := L.base + off) xs 0 w arr g1 (by omega) (allOne_cells b3 hl) g6
        refine ⟨w', r1, hs.turn he b1 hq rfl h r3 r4 r2 r7 r8 r9 ?_⟩
        refine ⟨arr', fr, rfl, by omega, fun h => by have := g3 h; omega, fun h => by have := g4 h; omega, fun i v hv => ?_, fun k hk => g6 k (by omega)⟩
        have hget := putCells_get hl.isRow hc' i
        rw [hv] at hget
        have ha := r6 (L.base + i)
        simp only [Nat.add_zero] at ha
        split at hget
        · rename_i hin
          obtain ⟨x, hx, r⟩ := hl.nth hget.symm
          have hin' : L.base + off ≤ L.base + i ∧ L.base + i < L.base + off + xs.length := by omega
          rw [if_pos hin'] at ha
          refine ⟨by omega, x, ?_, r⟩
          rw [ha, show L.base + i - (L.base + off) = i - off by omega]
          exact hx
        · rename_i hout
          have hout' : ¬ (L.base + off ≤ L.base + i ∧ L.base + i < L.base + off + xs.length) := by omega
          rw [if_neg hout'] at ha
          obtain ⟨q1, x, q2, q3⟩ := g5 i v hget.symm
          exact ⟨q1, x, by rw [ha]; exact q2, q3⟩
      · cases h
  · cases h

/-- an operation acts -/
def Acts (P : Program) (G : Nat) (a : Act) (env : Env) (H : Hp) (nx : Nat) (w : World) (o : Oper) (v : AV) (H' : Hp) (nx' : Nat) : Prop :=
  ∃ env' w' c, ((execOp a.eval o).run P w = .ok (.value c) w' ∨ ((execOp a.eval o).run P w = .ok .skip w' ∧ c = undef)) ∧ VR env' v c ∧ SR env' H' nx' w' ∧ Tr G env H nx w env' H' nx' w'

theorem undef_VR (env : Env) : VR env undefA undef := ⟨#[], rfl, rfl⟩

theorem up_some {a0 : AV} {nx : Nat} {x : Option Hp} {v : AV} {H' : Hp} {nx' : Nat} (h : R.up a0 nx x = .v v H' nx') : x = some H' ∧ v = a0 ∧ nx' = nx := by
  unfold R.up at h
  split at h
  · cases h; exact ⟨rfl, rfl, rfl⟩
  · cases h

theorem act_store (hg : GL G env) (ht : TR env tm a.tmps) (hs : SR env H nx w) {t : Nat} {x y : Operand} {o : Oper} (ho : o.op = .store t x y) {co : COp} (hc : cOp P G o.op = some co) {v : AV} {H' : Hp} {nx' : Nat} (h : heavyA P G co tm H nx = .v v H' nx') : Acts P G a env H nx w o v H' nx' := by
  rw [ho] at hc
  simp only [cOp] at hc
  obtain ⟨x', hx, e⟩ := o1_some hc
  obtain ⟨y', hy, e⟩ := o1_some e
  obtain ⟨n, hn, e⟩ := o1_some e
  cases e
  simp only [heavyA] at h
  split at h
  · rename_i id off u e1 e2
    obtain ⟨L, r1, r2⟩ := opd_sound hg ht hx e1
    have ru := opd_sound hg ht hy e2
    cases hb : Nat.beq u.cells.len n <;> rw [hb] at h
    · cases h
    · simp only [cond_true] at h
      obtain ⟨h1, rfl, rfl⟩ := up_some h
      have hlen := ru.cells.len
      simp only [Array.length_toList] at hlen
      have hsz : (a.eval y).cells.size = n := by have := Nat.eq_of_beq_eq_true hb; omega
      obtain ⟨w', q1, q2, q3⟩ := wrAt_sound (P := P) hs r1 h1 ru.cells
      refine ⟨env, w', undef, .inr ⟨?_, rfl⟩, undef_VR env, q2, q3⟩
      simp only [execOp, ho, Instr.storeAt, r2, Instr.sureAddr, Sem.run_bind, Sem.run_pure, Result.andThen_ok, storeVar, sizeOf_run hn, hsz, ne_eq, not_true_eq_false, if_false, q1]
  · cases h
end Go.Ev

namespace Go.Ev
variable {P : Program} {G : Nat} {env : Env} {tm : T AV} {a : Act} {H : Hp} {nx : Nat} {w : World}

/-- what is appended, or copied from -/
theorem srcA_sound (hs : SR env H nx w) {size : Nat} {x l : AV} {m : Nat} (h : srcA H size x = some (l, m)) {c : Value} (hx : VR env x c) :
    ∃ xs : Array Value, VL env l xs.toList ∧ xs.size = m * size ∧ (Builtin.lenOf c).run P w = .ok m w ∧ (∀ n, n ≤ m → (Builtin.firstCells size n c).run P w = .ok (xs.extract 0 (n * size)) w) := by
  unfold srcA at h
  split at h
  · cases h
    simp only [VR] at hx
    exact ⟨#[], rfl, by simp, by rw [hx]; rfl, fun n hn => by rw [hx]; simp [Builtin.firstCells]⟩
  · cases h
    obtain ⟨ad, k, rfl⟩ := hx
    refine ⟨#[], rfl, by simp, rfl, fun n hn => ?_⟩
    have : n = 0 := by omega
    subst this
    simp [Builtin.firstCells, loadCells, loadCellsFrom]
  · rename_i id off len cap
    split at h
    · rename_i l' hl
      cases h
      obtain ⟨L, k, r0, rfl, _⟩ := hx
      obtain ⟨c', m', sz, e, arr, fr, q1, q2, q3, q4, q5⟩ := rdAt_sound hs r0 hl
      have hms : Nat.mul m size = m * size := rfl
      rw [hms] at q3 q4 q5
      rcases Nat.eq_zero_or_pos (m * size) with h0 | hpos
      · refine ⟨#[], by rw [h0] at q4; simpa using q4, by simp [h0], rfl, fun n hn => ?_⟩
        have hn0 : n * size = 0 := by
          have : n * size ≤ m * size := Nat.mul_le_mul_right _ hn
          omega
        simp [Builtin.firstCells, hn0, loadCells, loadCellsFrom]
      · have q3 : L.base + off + m * size ≤ arr.size := by omega
        refine ⟨arr.extract (L.base + off) (L.base + off + m * size), by rw [extract_toList]; exact q4, by simp; omega, rfl, fun n hn => ?_⟩
        have hle : n * size ≤ m * size := Nat.mul_le_mul_right _ hn
        simp only [Builtin.firstCells]
        rw [loadCells_run q2 (by omega)]
        congr 1
        apply Array.ext'
        simp only [Array.toList_extract, List.extract_eq_take_drop, Nat.add_sub_cancel_left, Nat.sub_zero, List.drop_zero, List.take_take]
        rw [Nat.min_eq_left hle]
    · cases h
  · rename_i l'
    cases hb : Nat.beq size 1 <;> rw [hb] at h <;> cases h
    cases Nat.eq_of_beq_eq_true hb
    obtain ⟨s, rfl, rfl⟩ := hx
    have hl : (s.data.toList.map (·.toNat)).length = s.size := by simp
    refine ⟨(s.data.map fun b => Value.int .u8 b.toNat), ?_, by simp, by rw [hl]; rfl, fun n hn => ?_⟩
    · have := bytesA_VL env (s.data.toList.map (fun b : UInt8 => b.toNat))
      rw [List.map_map] at this
      rw [Array.toList_map]
      exact this
    · rw [hl] at hn
      simp only [Builtin.firstCells, Sem.run_pure]
      congr 1
      apply Array.ext'
      simp [List.map_take]
  · cases h

/-- a row moves on: where it lay, with more known of it -/
theorem SR.move (hs : SR env H nx w) {w' : World} {id : Nat} {L L' : Loc} {c c' : T AV} {n n' sz e e' : Nat} {H1 H2 : Hp} (he : env id = some L) (hG : G ≤ id) (hq : H.get id = some (.cells c n sz e)) (hb : L'.b = L.b)
    (h1 : H.put id .dead = some H1) (h2 : H1.put nx (.cells c' n' sz e') = some H2) {ob : Obj} (hw : ∀ b, b ≠ L.b → w'.heap[b]? = w.heap[b]?) (hwb : w'.heap[L.b]? = some ob) (hsz : w'.heap.size = w.heap.size) (ho : w'.os = w.os) (ht : w'.tape = w.tape) (hout : w'.output = w.output)
    (hor : ∀ env', Le env env' → OR env' L' (.cells c' n' sz e') ob) :
    ∃ env', env' nx = some L' ∧ Le env env' ∧ SR env' H2 (nx + 1) w' ∧ Tr G env H nx w env' H2 (nx + 1) w' := by
  have hlt := hs.bnd id L he
  have hnone : env nx = none := by cases e : env nx with | none => rfl | some K => have := (hs.bnd nx K e).2; omega
  have hne : id ≠ nx := by omega
  have hle : Le env (fun i => if i = nx then some L' else env i) := fun i K hK => by
    have : i ≠ nx := fun e => by subst e; rw [hnone] at hK; cases hK
    simp [this, hK]
  have get2 : ∀ i q, H2.get i = some q → (i = nx ∧ q = .cells c' n' sz e') ∨ (i = id ∧ q = .dead) ∨ (i ≠ nx ∧ i ≠ id ∧ H.get i = some q) := by
    intro i q hi
    by_cases e1 : i = nx
    · subst e1; rw [T.get_put_same h2] at hi; cases hi; exact .inl ⟨rfl, rfl⟩
    · rw [T.get_put_ne h2 e1] at hi
      by_cases e2 : i = id
      · subst e2; rw [T.get_put_same h1] at hi; cases hi; exact .inr (.inl ⟨rfl, rfl⟩)
      · rw [T.get_put_ne h1 e2] at hi; exact .inr (.inr ⟨e1, e2, hi⟩)
  refine ⟨fun i => if i = nx then some L' else env i, by simp, hle, ⟨?_, ?_, ?_, ?_⟩, ⟨hle, by omega, ?_, ?_, by omega, ?_, ho, ht, hout⟩⟩
  · intro i K q hK hqq
    rcases get2 i q hqq with ⟨rfl, rfl⟩ | ⟨rfl, rfl⟩ | ⟨e1, e2, hq'⟩
    · simp at hK; subst hK; exact ⟨ob, by rw [hb]; exact hwb, hor _ hle⟩
    · simp [hne] at hK; rw [he] at hK; cases hK; exact ⟨ob, hwb, trivial⟩
    · simp [e1] at hK
      obtain ⟨ob', g1, g2⟩ := hs.obj i K q hK hq'
      by_cases hlv : q.live = true
      · refine ⟨ob', ?_, g2.ext hle⟩
        rw [hw _ ?_, g1]
        intro hbb
        exact e2 (hs.inj i id K L q _ hK he hq' hq hlv rfl hbb)
      · cases q <;> simp [AO.live] at hlv
        by_cases hbb : K.b = L.b
        · exact ⟨ob, by rw [hbb]; exact hwb, trivial⟩
        · exact ⟨ob', by rw [hw _ hbb, g1], trivial⟩
  · intro i K hK
    by_cases e1 : i = nx
    · subst e1; simp at hK; subst hK; exact ⟨by omega, by omega⟩
    · simp [e1] at hK; have := hs.bnd i K hK; exact ⟨by omega, by omega⟩
  · intro i j K K' q q' hK hK' hq1 hq2 l1 l2 hbb
    rcases get2 i q hq1 with ⟨rfl, rfl⟩ | ⟨rfl, rfl⟩ | ⟨e1, e2, hqi⟩
    · rcases get2 j q' hq2 with ⟨rfl, rfl⟩ | ⟨rfl, rfl⟩ | ⟨f1, f2, hqj⟩
      · rfl
      · cases l2
      · simp at hK; subst hK; simp [f1] at hK'
        exact absurd (hs.inj j id K' L q' _ hK' he hqj hq l2 rfl (by omega)) f2
    · cases l1
    · simp [e1] at hK
      rcases get2 j q' hq2 with ⟨rfl, rfl⟩ | ⟨rfl, rfl⟩ | ⟨f1, f2, hqj⟩
      · simp at hK'; subst hK'
        exact absurd (hs.inj i id K L q _ hK he hqi hq l1 rfl (by omega)) e2
      · cases l2
      · simp [f1] at hK'
        exact hs.inj i j K K' q q' hK hK' hqi hqj l1 l2 hbb
  · intro i hi
    rw [T.get_put_ne h2 (by omega), T.get_put_ne h1 (by omega)]
    exact hs.top i (by omega)
  · intro i K hK
    by_cases e1 : i = nx
    · subst e1; simp at hK; subst hK; exact .inr ⟨Nat.le_refl _, .inr ⟨id, L, hG, he, hb.symm⟩⟩
    · simp [e1] at hK; exact .inl hK
  · intro i hi hn
    have e2 : i ≠ id := fun e => by subst e; rw [he] at hn; cases hn
    rw [T.get_put_ne h2 (by omega), T.get_put_ne h1 e2]
  · intro b _ hn; exact hw b (fun e => hn id L hG he e.symm)

set_option maxRecDepth 4000 in
theorem growBy_le (newLen : Nat) : ∀ (r c : Nat), Builtin.growBy newLen r c ≤ (c + 768) * 2 ^ r
  | 0, c => by simp [Builtin.growBy]
  | r + 1, c => by
    unfold Builtin.growBy
    split
    · have : 1 ≤ 2 ^ (r + 1) := Nat.one_le_two_pow
      calc c ≤ c + 768 := by omega
        _ = (c + 768) * 1 := by omega
        _ ≤ _ := Nat.mul_le_mul_left _ this
    · have ih := growBy_le newLen r (c + (c + 768) / 4)
      have : (c + (c + 768) / 4 + 768) * 2 ^ r ≤ ((c + 768) * 2) * 2 ^ r := Nat.mul_le_mul_right _ (by omega)
      rw [Nat.pow_succ, Nat.mul_comm (2 ^ r) 2, ← Nat.mul_assoc]
      omega

set_option maxRecDepth 4000 in
theorem nextcap_le (need cap : Nat) (h : cap < need) (hn : need ≤ 200000) : Builtin.nextslicecap need cap ≤ 4000000 := by
  unfold Builtin.nextslicecap
  split
  · omega
  · split
    · omega
    · have := growBy_le need 4 cap
      have : (cap + 768) * 2 ^ 4 = (cap + 768) * 16 := rfl
      omega

/-- 'append' where there is room -/
theorem append_in {t e size : Nat} {ty : TypeId} {u : Nat} {d : TypeDesc} (h1 : P.underlying t = some (.slice e)) (h2 : tySize P e = some size) (h3 : P.underlying u = some d) (h4 : ∀ k, d ≠ .int k)
    {base : Option Addr} {len cap : Nat} {c : Value} {m : Nat} (hl : (Builtin.lenOf c).run P w = .ok m w) {new : Array Value} (hf : (Builtin.firstCells size m c).run P w = .ok new w) (hin : len + m ≤ cap) {w' : World}
    (hst : ((match base with | some a => storeCells (a.add (len * size)) new.toList | none => pure ()) : Sem Unit).run P w = .ok () w') : (Builtin.append_ #[t, u] ty #[.slice base len cap, c]).run P w = .ok (.slice base (len + m) cap) w' := by
  have hz : (match d with | .int _ => true | _ => false) = false := by cases d <;> first | rfl | exact absurd rfl (h4 _)
  have e0 : (#[t, u] : Array TypeId)[0]? = some t := rfl
  have e1 : (#[t, u] : Array TypeId)[1]? = some u := rfl
  have e2 : (#[Value.slice base len cap, c] : Array Value)[0]? = some (.slice base len cap) := rfl
  have e3 : (#[Value.slice base len cap, c] : Array Value)[1]? = some c := rfl
  unfold Builtin.append_
  simp only [e0, e1, e2, e3, Sem.run_bind, underlying_run h1, Result.andThen_ok, sizeOf_run h2, underlying_run h3, Sem.run_pure]
  cases d <;> first | (exact absurd rfl (h4 _)) | (
    simp only [Sem.run_bind, Sem.run_pure, Result.andThen_ok, Bool.false_eq_true, if_false, hl, hin, if_true, Bool.not_false, hf]
    cases base with
    | none => simp only [Sem.run_pure] at hst; cases hst; rfl
    | some ad => simp only at hst; simp only [Sem.run_bind, hst, Result.andThen_ok, Sem.run_pure])

/-- 'append' where there is none -/
theorem append_grow {t e size : Nat} {ty : TypeId} {u : Nat} {d : TypeDesc} (h1 : P.underlying t = some (.slice e)) (h2 : tySize P e = some size) (h3 : P.underlying u = some d) (h4 : ∀ k, d ≠ .int k)
    {base : Option Addr} {len cap : Nat} {c : Value} {m : Nat} (hl : (Builtin.lenOf c).run P w = .ok m w) (hout : cap < len + m) (hlm : len + m ≤ 200000) (hsm : smallBytes P e = true) {z : AV} (hz : tyZeroC P e = some z) (hzl : z.len = size)
    {old new : Array Value} (w1 : World) (hw1 : w1 = { w with drawn := w.drawn + 1 }) (hf : (Builtin.firstCells size m c).run P w1 = .ok new w1) (ho : (Builtin.firstCells size len (.slice base len cap)).run P w1 = .ok old w1) :
    ∃ ncap rest, len + m ≤ ncap ∧ rest.size = (ncap - (len + m)) * size ∧ (Builtin.append_ #[t, u] ty #[.slice base len cap, c]).run P w = .ok (.slice (some ⟨w.heap.size, 0, none⟩) (len + m) ncap) { w1 with heap := w.heap.push (.cells (old ++ new ++ rest) e) } := by
  have e0 : (#[t, u] : Array TypeId)[0]? = some t := rfl
  have e1 : (#[t, u] : Array TypeId)[1]? = some u := rfl
  have e2 : (#[Value.slice base len cap, c] : Array Value)[0]? = some (.slice base len cap) := rfl
  have e3 : (#[Value.slice base len cap, c] : Array Value)[1]? = some c := rfl
  obtain ⟨zv, z1, z2⟩ := zeroC_run hz w1
  have hzs : zv.cells.size = size := by have := (z2 (fun _ => none)).len; simp at this; omega
  unfold smallBytes at hsm
  split at hsm
  case h_2 => cases hsm
  rename_i i hi
  have hby : i.bytes ≤ 1000000 := Nat.le_of_ble_eq_true hsm
  let ncap := (Question.appendCap (len + m) cap e).cut (w.tape w.drawn (.appendCap (len + m) cap e))
  have hnc : len + m ≤ ncap := by show len + m ≤ len + m + _; omega
  refine ⟨ncap, Builtin.zeroCells zv.cells (ncap - (len + m)), hnc, by simp [Builtin.zeroCells, hzs], ?_⟩
  have c1 : ¬ (len + m ≤ cap) := by omega
  have c2 : ¬ (((len + m : Nat) : Int) > IntKind.i64.max ∧ (False ∨ i.bytes = 0)) := by
    intro h
    have := h.1
    simp [IntKind.max, IntKind.signed, IntKind.bits] at this
    omega
  have c3 : ¬ (Builtin.nextslicecap (len + m) cap * i.bytes > 2 ^ 48) := by
    have a1 := nextcap_le (len + m) cap hout hlm
    have a2 : Builtin.nextslicecap (len + m) cap * i.bytes ≤ 4000000 * 1000000 := Nat.mul_le_mul a1 hby
    generalize Builtin.nextslicecap (len + m) cap * i.bytes = q at a2
    omega
  unfold Builtin.append_
  simp only [e0, e1, e2, e3, Sem.run_bind, underlying_run h1, Result.andThen_ok, sizeOf_run h2, underlying_run h3, Sem.run_pure]
  subst hw1
  cases d <;> first | (exact absurd rfl (h4 _)) | (
    simp only [Sem.run_bind, Sem.run_pure, Result.andThen_ok, Bool.false_eq_true, if_false, hl, c1, typeInfo, run_program, hi, Sem.run_ite, c2, c3, run_choose, Question.forced, run_askRoom]
    simp only [ho, Result.andThen_ok, Bool.not_false, if_true, hf, z1, newRow_run, c2, if_false]
    rfl)

/-- a row put together out of an old one and what is new -/
def Cat (c'' c : T AV) (off k : Nat) (new : AV) : Prop :=
  ∀ i v, c''.get i = some v → (i < k ∧ c.get (off + i) = some v) ∨ (k ≤ i ∧ i < k + new.len ∧ new.nth (i - k) = some v)

theorem cat_reuse {c c'' : T AV} {n : Nat} {new : AV} (hr : new.isRow = true) (h : putCells c n new = some c'') (hc : ∀ i v, c.get i = some v → i < n) : Cat c'' c 0 n new := by
  intro i v hv
  have := putCells_get hr h i
  rw [hv] at this
  split at this
  · rename_i hin; exact .inr ⟨hin.1, hin.2, this.symm⟩
  · have heq := this.symm; exact .inl ⟨hc i v heq, by rw [Nat.zero_add]; exact heq⟩

theorem app_nth_lt : ∀ {x y : AV} {i : Nat}, x.isRow = true → i < x.len → (x.app y).nth i = x.nth i := by
  intro x
  induction x with
  | cons h t _ iht =>
    intro y i hr hi
    cases i with
    | zero => rfl
    | succ i => exact iht hr (by have : (AV.cons h t).len = t.len + 1 := rfl; omega)
  | nil => intro y i _ hi; exact absurd hi (Nat.not_lt_zero _)
  | _ => intro y i hr; cases hr
theorem app_nth_ge : ∀ {x y : AV} {i : Nat}, x.isRow = true → x.len ≤ i → (x.app y).nth i = y.nth (i - x.len) := by
  intro x
  induction x with
  | cons h t _ iht =>
    intro y i hr hi
    have hl : (AV.cons h t).len = t.len + 1 := rfl
    cases i with
    | zero => omega
    | succ i =>
      have := iht (y := y) (i := i) hr (by omega)
      rw [hl, Nat.add_sub_add_right]
      exact this
  | nil => intro y i _ _; rfl
  | _ => intro y i hr; cases hr
theorem app_len : ∀ {x y : AV}, x.isRow = true → (x.app y).len = x.len + y.len := by
  intro x
  induction x with
  | cons h t _ iht =>
    intro y hr
    have := iht (y := y) hr
    show Nat.succ ((t.app y).len) = Nat.succ t.len + y.len
    rw [this]; omega
  | nil => intro y _; exact (Nat.zero_add _).symm
  | _ => intro y hr; cases hr
theorem app_isRow : ∀ {x y : AV}, x.isRow = true → y.isRow = true → (x.app y).isRow = true := by
  intro x
  induction x with
  | cons h t _ iht => intro y hr hy; exact iht hr hy
  | nil => intro y _ hy; exact hy
  | _ => intro y hr; cases hr

theorem getCells_nth {c : T AV} : ∀ {n off : Nat} {l : AV}, getCells c off n = some l → l.isRow = true ∧ l.len = n ∧ ∀ i v, l.nth i = some v → c.get (off + i) = some v := by
  intro n
  induction n with
  | zero => intro off l h; simp [getCells] at h; subst h; exact ⟨rfl, rfl, fun i v h => by cases i <;> cases h⟩
  | succ n ih =>
    intro off l h
    simp only [getCells] at h
    split at h
    · rename_i v hv
      split at h
      · rename_i l' hl
        cases h
        obtain ⟨h1, h2, h3⟩ := ih hl
        refine ⟨h1, by show Nat.succ l'.len = _; rw [h2], fun i u hu => ?_⟩
        cases i with
        | zero => simp [AV.nth] at hu; subst hu; simpa using hv
        | succ i =>
          have := h3 i u hu
          rw [show off + (i + 1) = Nat.succ off + i by omega]
          exact this
      · cases h
    · cases h

theorem cat_row {c c'' : T AV} {off k : Nat} {old new : AV} (ho : getCells c off k = some old) (hr : new.isRow = true) (h : rowOf (old.app new) = some c'') : Cat c'' c off k new := by
  obtain ⟨g1, g2, g3⟩ := getCells_nth ho
  intro i v hv
  have := putCells_get (app_isRow g1 hr) h i
  rw [hv] at this
  simp only [Nat.zero_le, true_and, Nat.zero_add, Nat.sub_zero, T.get_e] at this
  split at this
  · rename_i hin
    rw [app_len g1, g2] at hin
    rcases Nat.lt_or_ge i k with hik | hik
    · rw [app_nth_lt g1 (by omega)] at this
      exact .inl ⟨hik, g3 i v this.symm⟩
    · rw [app_nth_ge g1 (by omega), g2] at this
      exact .inr ⟨hik, hin, this.symm⟩
  · cases this
end Go.Ev

namespace Go.Ev
variable {P : Program} {G : Nat} {env : Env} {tm : T AV} {a : Act} {H : Hp} {nx : Nat} {w : World}

theorem rnew_some {a0 : AV} {H : Hp} {nx : Nat} {o : AO} {v : AV} {H' : Hp} {nx' : Nat} (h : R.new a0 H nx o = .v v H' nx') : H.put nx o = some H' ∧ v = a0 ∧ nx' = nx + 1 := by
  unfold R.new at h
  split at h
  · rename_i H1 e; cases h; exact ⟨e, rfl, rfl⟩
  · cases h

theorem loadCells_run' {b off n : Nat} {arr : Array Value} {e : Nat} {fr : Nat × Nat} (h : w.heap[b]? = some (.cells arr e fr)) (hl : n = 0 ∨ off + n ≤ arr.size) : (loadCells ⟨b, off, none⟩ n).run P w = .ok (arr.extract off (off + n)) w := by
  rcases Nat.eq_zero_or_pos n with rfl | hn
  · have : arr.extract off (off + 0) = #[] := by apply Array.eq_empty_of_size_eq_zero; simp; omega
    rw [this]; simp [loadCells, loadCellsFrom]
  · exact loadCells_run h (by omega)

/-- a world that has drawn once more -/
theorem SR.drawn (hs : SR env H nx w) : SR env H nx { w with drawn := w.drawn + 1 } := ⟨hs.obj, hs.bnd, hs.inj, hs.top⟩

/-- the row that is made where there is no room -/
theorem OR_grown {c'' c : T AV} {off k size : Nat} {new : AV} (hcat : Cat c'' c off k new) {arr old newc rest : Array Value} {base : Nat} {m : Nat} (hc : ∀ i v, c.get i = some v → ∃ x, arr[base + i]? = some x ∧ VR env v x)
    (hold : ∀ i, i < k → old[i]? = arr[base + off + i]?) (hk : old.size = k) (hnew : VL env new newc.toList) {ncap len : Nat} (hkl : k = len * size) (hm : newc.size = m * size) (hle : len + m ≤ ncap) (hrest : rest.size = (ncap - (len + m)) * size) (h0 : 0 < size) (b e : Nat) :
    OR env ⟨b, 0, ncap * size, size⟩ (.cells c'' ((len + m) * size) size e) (.cells (old ++ newc ++ rest) e (0, 0)) := by
  have hsz : (old ++ newc ++ rest).size = ncap * size := by
    simp only [Array.size_append, hk, hkl, hm, hrest]
    rw [← Nat.add_mul, ← Nat.add_mul]
    congr 1; omega
  have hmul : (len + m) * size ≤ ncap * size := Nat.mul_le_mul_right _ hle
  have hadd : (len + m) * size = len * size + m * size := Nat.add_mul _ _ _
  have hlen := hnew.len
  simp only [Array.length_toList] at hlen
  refine ⟨_, (0, 0), rfl, by rw [hsz]; simpa using hmul, fun h => by omega, fun _ => ⟨rfl, by rw [hsz]; simp⟩, fun i v hv => ?_, fun k _ h => by have := h.2; simp at this⟩
  rcases hcat i v hv with ⟨h1, h2⟩ | ⟨h1, h2, h3⟩
  · obtain ⟨x, hx, r⟩ := hc _ _ h2
    refine ⟨by omega, x, ?_, r⟩
    rw [Nat.zero_add, Array.append_assoc, Array.getElem?_append_left (by omega), hold i h1, Nat.add_assoc]
    exact hx
  · obtain ⟨x, hx, r⟩ := hnew.nth h3
    refine ⟨by omega, x, ?_, r⟩
    have hx' : newc[i - k]? = some x := by rw [← Array.getElem?_toList]; exact hx
    rw [Nat.zero_add, Array.append_assoc, Array.getElem?_append_right (by omega), hk, Array.getElem?_append_left (by omega)]
    exact hx'

theorem act_append_run (hs : SR env H nx w) {t e size u : Nat} {ty : TypeId} {d : TypeDesc} (h1 : P.underlying t = some (.slice e)) (h2 : tySize P e = some size) (h3 : P.underlying u = some d) (h4 : ∀ k, d ≠ .int k) (hsm : smallBytes P e = true) {z : AV} (hz : tyZeroC P e = some z) (hzl : z.len = size) (h0 : 0 < size)
    {s x : AV} {sc xc : Value} (hsv : VR env s sc) (hx : VR env x xc) {v : AV} {H' : Hp} {nx' : Nat} (h : appendA G H nx size e s x = .v v H' nx') :
    ∃ env' w' c, (Builtin.append_ #[t, u] ty #[sc, xc]).run P w = .ok c w' ∧ VR env' v c ∧ SR env' H' nx' w' ∧ Tr G env H nx w env' H' nx' w' := by
  unfold appendA at h
  split at h
  · cases h
  · rename_i new m hsrc
    obtain ⟨newc, n1, n2, n3, n4⟩ := srcA_sound (P := P) hs hsrc hx
    have hf : (Builtin.firstCells size m xc).run P w = .ok newc w := by
      rw [n4 m (Nat.le_refl _), ← n2]; simp
    obtain ⟨newc', n1', n2', n3', n4'⟩ := srcA_sound (P := P) hs.drawn hsrc hx
    have hlenn := n1.len
    simp only [Array.length_toList] at hlenn
    have hf' : ∃ newd : Array Value, VL env new newd.toList ∧ newd.size = m * size ∧ (Builtin.firstCells size m xc).run P { w with drawn := w.drawn + 1 } = .ok newd { w with drawn := w.drawn + 1 } :=
      ⟨newc', n1', n2', by rw [n4' m (Nat.le_refl _), ← n2']; simp⟩
    obtain ⟨newd, d1, d2, d3⟩ := hf'
    cases hbm : Nat.ble m 100000 <;> rw [hbm] at h
    · cases h
    simp only [cond_true] at h
    have hbm := Nat.le_of_ble_eq_true hbm
    split at h
    · -- nil
      simp only [VR] at hsv
      subst hsv
      cases hm0 : Nat.beq m 0 <;> rw [hm0] at h
      · simp only [cond_false] at h
        have hmne : m ≠ 0 := fun e => by subst e; cases hm0
        split at h
        · rename_i c hr
          obtain ⟨p1, rfl, rfl⟩ := rnew_some h
          obtain ⟨ncap, rest, g1, g2, g3⟩ := append_grow (ty := ty) h1 h2 h3 h4 (base := none) (len := 0) (cap := 0) n3 (by omega) (by omega) hsm hz hzl (old := #[]) { w with drawn := w.drawn + 1 } rfl d3 (by simp [Builtin.firstCells])
          have hcat : Cat c .e 0 0 new := cat_reuse n1.isRow hr (fun i v hv => by simp at hv)
          obtain ⟨env', q1, q2, q3, _⟩ := SR.new (G := G) (w' := { w with drawn := w.drawn + 1, heap := w.heap.push (.cells (#[] ++ newd ++ rest) e) }) hs ⟨w.heap.size, 0, ncap * size, size⟩ rfl p1 rfl rfl rfl rfl (fun env' hle _ => by
            have := OR_grown (env := env') (arr := #[]) (old := #[]) (base := 0) (len := 0) hcat (fun i v hv => by simp at hv) (fun i hi => by omega) rfl (d1.ext hle) (by simp) d2 g1 g2 h0 w.heap.size e
            simpa using this)
          refine ⟨env', _, _, g3, ⟨_, ncap, q1, by simp, by show 0 + ncap * size = ncap * size; omega⟩, q2, q3⟩
        · cases h
      · simp only [cond_true] at h
        cases h
        cases Nat.eq_of_beq_eq_true hm0
        have hr := append_in (P := P) (w := w) (ty := ty) h1 h2 h3 h4 (base := none) (len := 0) (cap := 0) n3 hf (Nat.le_refl _) (w' := w) rfl
        exact ⟨env, w, _, hr, rfl, hs, Tr.refl _ _ _ _ _⟩
    · -- empty, its place unknown
      obtain ⟨ad, k, rfl⟩ := hsv
      cases hm0 : Nat.beq m 0 <;> rw [hm0] at h
      · cases h
      · simp only [cond_true] at h
        cases h
        cases Nat.eq_of_beq_eq_true hm0
        have hn0 : newc = #[] := by apply Array.eq_empty_of_size_eq_zero; omega
        subst hn0
        have hr := append_in (P := P) (w := w) (ty := ty) h1 h2 h3 h4 (base := some ad) (len := 0) (cap := k) n3 hf (Nat.zero_le _) (w' := w) rfl
        exact ⟨env, w, _, hr, ⟨ad, k, rfl⟩, hs, Tr.refl _ _ _ _ _⟩
    · rename_i id off len cap
      obtain ⟨L, kc, r0, rfl, rc⟩ := hsv
      cases hbl : Nat.ble len 100000 <;> rw [hbl] at h
      · cases h
      simp only [cond_true] at h
      have hbl := Nat.le_of_ble_eq_true hbl
      split at h
      · rename_i c n sz el hq
        obtain ⟨arr, fr, g1, g2, g3, g4, g5, g6⟩ := hs.cells r0 hq
        -- in place
        have inplace : ∀ {H1 : Hp}, len + m ≤ kc → wrAt G H id (off + len * size) new = some H1 → ∃ w', (Builtin.append_ #[t, u] ty #[.slice (some ⟨L.b, L.base + off, none⟩) len kc, xc]).run P w = .ok (.slice (some ⟨L.b, L.base + off, none⟩) (len + m) kc) w' ∧ SR env H1 nx w' ∧ Tr G env H nx w env H1 nx w' := by
          intro H1 hin hwr
          obtain ⟨w', q1, q2, q3⟩ := wrAt_sound (P := P) hs r0 hwr n1
          exact ⟨w', append_in h1 h2 h3 h4 n3 hf hin (by simp only [add_none]; rw [Nat.add_assoc]; exact q1), q2, q3⟩
        have grown : ∀ {H0 H1 : Hp} {c'' : T AV}, kc < len + m → (len * size = 0 ∨ L.base + off + len * size ≤ arr.size) → (H0 = H ∨ (G ≤ id ∧ H.put id .dead = some H0)) → Cat c'' c off (len * size) new → H0.put nx (.cells c'' ((len + m) * size) size e) = some H1 →
            ∃ env' w' r, (Builtin.append_ #[t, u] ty #[.slice (some ⟨L.b, L.base + off, none⟩) len kc, xc]).run P w = .ok r w' ∧ VR env' (.sl nx 0 (len + m) none) r ∧ SR env' H1 (nx + 1) w' ∧ Tr G env H nx w env' H1 (nx + 1) w' := by
          intro H0 H1 c'' hout hfit hH0 hcat hput
          have g1' : ({ w with drawn := w.drawn + 1 } : World).heap[L.b]? = some (.cells arr el fr) := g1
          obtain ⟨ncap, rest, q1, q2, q3⟩ := append_grow (ty := ty) h1 h2 h3 h4 (base := some ⟨L.b, L.base + off, none⟩) (len := len) (cap := kc) n3 hout (by omega) hsm hz hzl (old := arr.extract (L.base + off) (L.base + off + len * size)) { w with drawn := w.drawn + 1 } rfl d3 (by simp only [Builtin.firstCells]; exact loadCells_run' g1' hfit)
          have hsH : SR env H0 nx w ∧ Tr G env H nx w env H0 nx w := by
            rcases hH0 with rfl | ⟨hG, hk⟩
            · exact ⟨hs, Tr.refl _ _ _ _ _⟩
            · exact hs.kill hq ⟨L, r0⟩ hk
          obtain ⟨env', p1, p2, p3, _⟩ := SR.new (G := G) (w' := { w with drawn := w.drawn + 1, heap := w.heap.push (.cells (arr.extract (L.base + off) (L.base + off + len * size) ++ newd ++ rest) e) }) hsH.1 ⟨w.heap.size, 0, ncap * size, size⟩ rfl hput rfl rfl rfl rfl (fun env' hle _ =>
            OR_grown (env := env') (arr := arr) (old := arr.extract (L.base + off) (L.base + off + len * size)) (base := L.base) hcat (fun i v hv => let ⟨_, x, hx, r⟩ := g5 i v hv; ⟨x, hx, r.ext hle⟩) (fun i hi => by
              rw [Array.getElem?_extract]
              have : i < min (L.base + off + len * size) arr.size - (L.base + off) := by omega
              simp [this]) (by simp only [Array.size_extract]; omega) (d1.ext hle) rfl d2 q1 q2 h0 w.heap.size e)
          exact ⟨env', _, _, q3, ⟨_, ncap, p1, by simp, by show 0 + ncap * size = ncap * size; omega⟩, p2, hsH.2.trans p3⟩
        have hmn : Nat.mul len size = len * size := rfl
        split at h
        · rename_i k
          simp only at rc
          subst rc
          cases hfit : Nat.ble (Nat.add len m) kc <;> rw [hfit] at h
          · simp only [cond_false] at h
            have hout : kc < len + m := by
              rcases Nat.lt_or_ge kc (len + m) with q | q
              · exact q
              · have : Nat.ble (Nat.add len m) kc = true := Nat.ble_eq_true_of_le q
                rw [hfit] at this; cases this
            split at h
            · rename_i old hold
              split at h
              · rename_i c'' hr
                obtain ⟨p1, rfl, rfl⟩ := rnew_some h
                obtain ⟨_, b2, _⟩ := getCells_sound g5 hold
                obtain ⟨env', w', r, q1, q2, q3, q4⟩ := grown hout b2 (.inl rfl) (cat_row hold n1.isRow hr) p1
                exact ⟨env', w', r, q1, q2, q3, q4⟩
              · cases h
            · cases h
          · simp only [cond_true] at h
            obtain ⟨p1, rfl, rfl⟩ := up_some h
            obtain ⟨w', q1, q2, q3⟩ := inplace (Nat.le_of_ble_eq_true hfit) p1
            exact ⟨env, w', _, q1, ⟨L, kc, r0, rfl, rfl⟩, q2, q3⟩
        · simp only at rc
          cases hsz : Nat.beq sz size <;> rw [hsz] at h
          · cases h
          simp only [cond_true] at h
          have hsz := Nat.eq_of_beq_eq_true hsz
          subst hsz
          obtain ⟨s1, s2⟩ := g4 (by omega)
          rw [s1] at rc
          cases hfit : Nat.ble (Nat.add off (Nat.mul (Nat.add len m) sz)) n <;> rw [hfit] at h
          · simp only [cond_false] at h
            cases hGG : (Nat.ble G id && allOne new && Nat.beq el e) <;> rw [hGG] at h
            · cases h
            simp only [cond_true] at h
            obtain ⟨hG, hall, hel⟩ := conj3 hGG
            have hG := Nat.le_of_ble_eq_true hG
            have hel := Nat.eq_of_beq_eq_true hel
            subst hel
            split at h
            · rename_i H0 hkill
              have key : ∃ c'', Cat c'' c off (len * sz) new ∧ H0.put nx (.cells c'' ((len + m) * sz) sz el) = some H' ∧ v = .sl nx 0 (len + m) none ∧ nx' = nx + 1 ∧ (len * sz = 0 ∨ L.base + off + len * sz ≤ arr.size) := by
                cases hre : (Nat.beq off 0 && Nat.beq (Nat.mul len sz) n) <;> rw [hre] at h
                · simp only [cond_false] at h
                  split at h
                  · rename_i old hold
                    split at h
                    · rename_i c'' hr
                      obtain ⟨p1, p2, p3⟩ := rnew_some h
                      obtain ⟨_, b2, _⟩ := getCells_sound g5 hold
                      exact ⟨c'', cat_row hold n1.isRow hr, p1, p2, p3, b2⟩
                    · cases h
                  · cases h
                · simp only [cond_true] at h
                  simp only [Bool.and_eq_true] at hre
                  have e1 := Nat.eq_of_beq_eq_true hre.1
                  have e2 : len * sz = n := Nat.eq_of_beq_eq_true hre.2
                  subst e1
                  split at h
                  · rename_i c'' hr
                    obtain ⟨p1, p2, p3⟩ := rnew_some h
                    refine ⟨c'', ?_, p1, p2, p3, .inr (by omega)⟩
                    have := cat_reuse n1.isRow hr (fun i v hv => (g5 i v hv).1)
                    rw [← e2] at this
                    exact this
                  · cases h
              obtain ⟨c'', hcat, hput, rfl, rfl, hfit2⟩ := key
              rcases Nat.lt_or_ge kc (len + m) with hout | hin
              · obtain ⟨env', w', r, q1, q2, q3, q4⟩ := grown hout hfit2 (.inr ⟨hG, hkill⟩) hcat hput
                exact ⟨env', w', r, q1, q2, q3, q4⟩
              · have hmul : (len + m) * sz ≤ kc * sz := Nat.mul_le_mul_right _ hin
                have hadd : (len + m) * sz = len * sz + m * sz := Nat.add_mul _ _ _
                have hone : ∀ x ∈ newc.toList, x.oneCell' = true := allOne_cells hall n1
                obtain ⟨w', arr', r1, r2, r3, r4, r5, r6, r7, r8, r9⟩ := storeCells_run (P := P) (off := L.base + off + len * sz) newc.toList 0 w arr g1 (by simp only [Array.length_toList]; omega) hone g6
                have hor : ∀ env', Le env env' → OR env' ⟨L.b, L.base + off, kc * sz, sz⟩ (.cells c'' ((len + m) * sz) sz el) (.cells arr' el fr) := by
                  intro env' hle
                  refine ⟨arr', fr, rfl, ?_, fun h => by omega, fun _ => ⟨rfl, ?_⟩, fun i v hv => ?_, fun k hk => g6 k (by omega)⟩
                  · show L.base + off + (len + m) * sz ≤ arr'.size; omega
                  · show L.base + off + kc * sz = arr'.size; omega
                  · have ha := r6 (L.base + off + i)
                    simp only [Nat.add_zero, Array.length_toList] at ha
                    rcases hcat i v hv with ⟨c1, c2⟩ | ⟨c1, c2, c3⟩
                    · obtain ⟨_, x, hx, r⟩ := g5 _ _ c2
                      have : ¬ (L.base + off + len * sz ≤ L.base + off + i ∧ L.base + off + i < L.base + off + len * sz + newc.size) := by omega
                      rw [if_neg this] at ha
                      exact ⟨by omega, x, by rw [ha, Nat.add_assoc]; exact hx, r.ext hle⟩
                    · obtain ⟨x, hx, r⟩ := n1.nth c3
                      have : L.base + off + len * sz ≤ L.base + off + i ∧ L.base + off + i < L.base + off + len * sz + newc.size := by omega
                      rw [if_pos this, show L.base + off + i - (L.base + off + len * sz) = i - len * sz by omega] at ha
                      exact ⟨by omega, x, by rw [ha]; exact hx, r.ext hle⟩
                obtain ⟨env', m1, m2, m3, m4⟩ := SR.move (G := G) (w' := w') hs (L' := ⟨L.b, L.base + off, kc * sz, sz⟩) r0 hG hq rfl hkill hput r3 r4 r2 r7 r8 r9 hor
                refine ⟨env', w', _, append_in h1 h2 h3 h4 n3 hf hin (w' := w') (by simp only [add_none]; exact r1), ⟨_, kc, m1, by simp, by show 0 + kc * sz = kc * sz; omega⟩, m3, m4⟩
            · cases h
          · simp only [cond_true] at h
            obtain ⟨p1, rfl, rfl⟩ := up_some h
            have hfit : off + (len + m) * sz ≤ n := Nat.le_of_ble_eq_true hfit
            have hin : len + m ≤ kc := by
              rcases Nat.lt_or_ge kc (len + m) with q | q
              · have : (kc + 1) * sz ≤ (len + m) * sz := Nat.mul_le_mul_right _ q
                rw [Nat.add_mul] at this
                omega
              · exact q
            obtain ⟨w', q1, q2, q3⟩ := inplace hin p1
            exact ⟨env, w', _, q1, ⟨L, kc, r0, rfl, by show off + kc * L.sz = L.lim; rw [s1]; exact rc⟩, q2, q3⟩
      · cases h
    · cases h
end Go.Ev

namespace Go.Ev
variable {P : Program} {G : Nat} {env : Env} {tm : T AV} {a : Act} {H : Hp} {nx : Nat} {w : World}

theorem setObj_run {b : Nat} {ob o' : Obj} (h : w.heap[b]? = some ob) (hn : ∀ c e f, ob ≠ .cells c e f) : (setObj b o').run P w = .ok () { w with heap := w.heap.setIfInBounds b o' } := by
  cases ob <;> first | exact absurd rfl (hn _ _ _) | simp [setObj, Sem.run, h]

/-- an object that is no row is turned -/
theorem SR.set (hs : SR env H nx w) {id : Nat} {L : Loc} {o o' : AO} {ob : Obj} (he : env id = some L) (hG : G ≤ id) (hq : H.get id = some o) (hl : o.live = true) {H' : Hp} (hp : H.put id o' = some H') (hor : OR env L o' ob) :
    SR env H' nx { w with heap := w.heap.setIfInBounds L.b ob } ∧ Tr G env H nx w env H' nx { w with heap := w.heap.setIfInBounds L.b ob } := by
  have hlt := (hs.bnd id L he).1
  refine hs.turn he hG hq hl hp (fun b hb => ?_) ?_ (by simp) rfl rfl rfl hor
  · simp only [Array.getElem?_setIfInBounds_ne (fun e => hb e.symm)]
  · simp [hlt]

theorem MR.nth {es : List Ent} : ∀ {l : List MapEntry} {j : Nat} {m : MapEntry}, MR env es l → l[j]? = some m → ∃ e, es[j]? = some e ∧ VR env e.key m.key ∧ VR env e.val m.val ∧ e.born = m.born := by
  induction es with
  | nil => rintro l j m rfl h; simp at h
  | cons e es ih =>
    rintro l j m ⟨m', ms, rfl, h1, h2, h3, h4⟩ h
    cases j with
    | zero => simp at h; subst h; exact ⟨e, rfl, h1, h2, h3⟩
    | succ j => simpa using ih h4 (by simpa using h)

theorem updE_sound {q : EqS} {d : TypeDesc} (hq : KeyTy q d) {k v : AV} {kc vc : Value} (hk : VR env k kc) (hv : VR env v vc) : ∀ {es es' : List Ent} {arr : List MapEntry} (i : Nat), MR env es arr → updE q k v es = some es' →
    ∃ j m, Instr.findNow d kc arr i = some (some (i + j, m.val)) ∧ arr[j]? = some m ∧ Instr.sameNow d kc m.key = some true ∧ MR env es' (arr.set j { m with key := kc, val := vc })
  | [], es', arr, i, _, h => by simp [updE] at h
  | e :: es, es', arr, i, hm, h => by
    obtain ⟨m, ms, rfl, mk, mv, mb, mr⟩ := hm
    simp only [updE] at h
    split at h
    · rename_i e1
      cases h
      have sn := sameNow_sound hq e1 hk mk
      exact ⟨0, m, by simp [Instr.findNow, sn], rfl, sn, _, ms, rfl, hk, hv, mb, mr⟩
    · rename_i e1
      have sn := sameNow_sound hq e1 hk mk
      split at h
      · rename_i l' hl
        cases h
        obtain ⟨j, m', f1, f2, f3, f4⟩ := updE_sound hq hk hv (i + 1) mr hl
        exact ⟨j + 1, m', by simp only [Instr.findNow, sn, f1]; congr 3; omega, by simpa using f2, f3, m, _, rfl, mk, mv, mb, f4⟩
      · cases h
    · cases h

theorem delE_sound {q : EqS} {d : TypeDesc} (hq : KeyTy q d) {k : AV} {kc : Value} (hk : VR env k kc) : ∀ {es es' : List Ent} {arr : List MapEntry} (i : Nat), MR env es arr → delE q k es = some es' →
    (Instr.findNow d kc arr i = some none ∧ MR env es' arr) ∨ ∃ j c, j < arr.length ∧ Instr.findNow d kc arr i = some (some (i + j, c)) ∧ MR env es' (arr.eraseIdx j)
  | [], es', arr, i, hm, h => by cases hm; simp [delE] at h; subst h; exact .inl ⟨rfl, rfl⟩
  | e :: es, es', arr, i, hm, h => by
    obtain ⟨m, ms, rfl, mk, mv, mb, mr⟩ := hm
    simp only [delE] at h
    split at h
    · rename_i e1
      cases h
      have sn := sameNow_sound hq e1 hk mk
      exact .inr ⟨0, m.val, by simp, by simp [Instr.findNow, sn], mr⟩
    · rename_i e1
      have sn := sameNow_sound hq e1 hk mk
      split at h
      · rename_i l' hl
        cases h
        rcases delE_sound hq hk (i + 1) mr hl with ⟨f1, f2⟩ | ⟨j, c, f0, f1, f2⟩
        · exact .inl ⟨by simp [Instr.findNow, sn, f1], m, ms, rfl, mk, mv, mb, f2⟩
        · exact .inr ⟨j + 1, c, by simp; omega, by simp only [Instr.findNow, sn, f1]; congr 3; omega, m, _, rfl, mk, mv, mb, f2⟩
      · cases h
    · cases h

theorem sameBits_of {d : TypeDesc} {u v : Value} (h : Instr.sameNow d u v = some true) : Instr.sameBits 10000 v u = true := by
  unfold Instr.sameNow at h
  split at h
  · split at h
    · rename_i e
      subst e
      have h := Option.some.inj h
      simp at h
      simp [Instr.sameBits, h]
    · cases h
  · rename_i x y
    have h := Option.some.inj h
    have h' : x.data.toList = y.data.toList := by
      have : (x.data == y.data) = true := h
      simpa using congrArg Array.toList (eq_of_beq this)
    simp only [Instr.sameBits]
    show (y.data == x.data) = true
    simp [Array.toList_inj.1 h'.symm]
  · have h := Option.some.inj h
    simp at h
    simp [Instr.sameBits, h]
  · cases h

theorem MR.snoc {es : List Ent} {e : Ent} : ∀ {l : List MapEntry} {m : MapEntry}, MR env es l → VR env e.key m.key → VR env e.val m.val → e.born = m.born → MR env (es ++ [e]) (l ++ [m]) := by
  induction es with
  | nil => rintro l m rfl h1 h2 h3; exact ⟨m, [], rfl, h1, h2, h3, rfl⟩
  | cons e' es ih => rintro l m ⟨m', ms, rfl, h1, h2, h3, h4⟩ k1 k2 k3; exact ⟨m', _, rfl, h1, h2, h3, ih h4 k1 k2 k3⟩

theorem modify_toList {α : Type} (xs : Array α) (i : Nat) (f : α → α) (x : α) (h : xs[i]? = some x) : (xs.modify i f).toList = xs.toList.set i (f x) := by
  apply List.ext_getElem?
  intro j
  rw [Array.getElem?_toList, Array.getElem?_modify, List.getElem?_set]
  by_cases e : i = j
  · subst e
    obtain ⟨hi, _⟩ := Array.getElem?_eq_some_iff.1 h
    have hx : xs[i] = x := by simpa [hi] using h
    simp [hi, hx]
  · simp [e]

theorem act_mapupd (hg : GL G env) (ht : TR env tm a.tmps) (hs : SR env H nx w) {t : Nat} {m k x : Operand} {o : Oper} (ho : o.op = .mapUpdate t m k x ∨ o.op = .insert t m k x) {q : EqS} {m' k' x' : CO} (hq : mapKind P t = some q) (hm : opdOf G m = some m') (hk : opdOf G k = some k') (hx : opdOf G x = some x')
    {v : AV} {H' : Hp} {nx' : Nat} (h : heavyA P G (.mapupd q m' k' x') tm H nx = .v v H' nx') : Acts P G a env H nx w o v H' nx' := by
  unfold mapKind at hq
  split at hq
  case h_2 => cases hq
  rename_i kt el hu
  obtain ⟨d, hd, hqd⟩ := keyKind_ty hq
  simp only [heavyA] at h
  split at h
  · rename_i id kv xv em ek ex
    obtain ⟨L, r1, r2⟩ := opd_sound hg ht hm em
    have rk := opd_sound hg ht hk ek
    have rx := opd_sound hg ht hx ex
    split at h
    · rename_i es c hH
      obtain ⟨ob, o1, hL0, arr, rfl, g2⟩ := hs.obj id L _ r1 hH
      have cr := checkKey_run hd hqd false 9999 (a.eval k) w
      have eo : (execOp a.eval o).run P w = ((Instr.mapUpdate t (a.eval m) (a.eval k) (a.eval x)).run P w).andThen fun _ w' => .ok .skip w' := by
        rcases ho with ho | ho <;> simp [execOp, ho]
      have fin : ∀ {o' : AO} {ob' : Obj}, G ≤ id → H.put id o' = some H' → OR env L o' ob' → (Instr.mapUpdate t (a.eval m) (a.eval k) (a.eval x)).run P w = .ok () { w with heap := w.heap.setIfInBounds L.b ob' } → Acts P G a env H nx w o undefA H' nx := by
        intro o' ob' hG hp hor hrun
        obtain ⟨s1, s2⟩ := hs.set (G := G) r1 hG hH rfl hp hor
        exact ⟨env, _, undef, .inr ⟨by rw [eo, hrun]; rfl, rfl⟩, undef_VR env, s1, s2⟩
      cases hG : Nat.ble G id <;> rw [hG] at h
      · cases h
      simp only [cond_true] at h
      have hG := Nat.le_of_ble_eq_true hG
      split at h
      · split at h
        · rename_i es' hes
          obtain ⟨p1, rfl, rfl⟩ := up_some h
          obtain ⟨j, me, f1, f2, f3, f4⟩ := updE_sound hqd rk rx 0 g2 hes
          have f2' : arr[j]? = some me := by rw [← Array.getElem?_toList]; exact f2
          rw [Nat.zero_add] at f1
          refine fin (ob' := .map (arr.modify j fun e => { e with key := a.eval k, val := a.eval x }) c) hG p1 ⟨hL0, _, rfl, by rw [modify_toList _ _ _ _ f2']; exact f4⟩ ?_
          have fk : (Instr.findKey kt (a.eval k) arr.toList).run P w = .ok (some (j, me.val)) w := by
            simp only [Instr.findKey, Sem.run_bind, underlying_run hd, Result.andThen_ok, f1, Sem.run_pure]
          have ks : (Instr.keyThatStays me.key (a.eval k)).run P w = .ok (a.eval k) w := by
            simp [Instr.keyThatStays, sameBits_of f3]
          simp only [Instr.mapUpdate, Sem.run_bind, underlying_run hu, Result.andThen_ok, r2, getObj_map o1, cr, fk, f2', Option.map_some, Option.getD_some, ks, setObj_run o1 (fun _ _ _ h => by cases h)]
        · cases h
      · rename_i hf
        obtain ⟨p1, rfl, rfl⟩ := up_some h
        obtain ⟨f1, _⟩ := findE_sound hqd rk 0 g2 hf
        have fk : (Instr.findKey kt (a.eval k) arr.toList).run P w = .ok none w := by
          simp only [Instr.findKey, Sem.run_bind, underlying_run hd, Result.andThen_ok, f1 rfl, Sem.run_pure]
        refine fin (ob' := .map (arr.push { key := a.eval k, val := a.eval x, born := c }) (c + 1)) hG p1 ⟨hL0, _, rfl, ?_⟩ ?_
        · rw [Array.toList_push]
          exact g2.snoc rk rx rfl
        · simp only [Instr.mapUpdate, Sem.run_bind, underlying_run hu, Result.andThen_ok, r2, getObj_map o1, cr, fk, setObj_run o1 (fun _ _ _ h => by cases h)]
      · cases h
    · cases h
  · cases h

theorem act_delete (hg : GL G env) (ht : TR env tm a.tmps) (hs : SR env H nx w) {c : Call} {t u : Nat} {q : EqS} {m' k' : CO} {o : Oper} (ho : o.op = .call c) (hb : c.callee = .builtin .delete) (hx : opdsOf G c.args.toList = some [m', k']) (hts : c.argTypes.toList = [t, u]) (hq : mapKind P t = some q)
    {v : AV} {H' : Hp} {nx' : Nat} (h : heavyA P G (.delete q m' k') tm H nx = .v v H' nx') : Acts P G a env H nx w o v H' nx' := by
  unfold mapKind at hq
  split at hq
  case h_2 => cases hq
  rename_i kt el hu
  obtain ⟨d, hd, hqd⟩ := keyKind_ty hq
  obtain ⟨m, k, hl, hm, hk⟩ := opds2 hx
  obtain ⟨cs, hex⟩ := exec_b2 (a := a) ho hb hl hts
  have eo : (execOp a.eval o).run P w = ((Builtin.delete_ [t, u].toArray o.type #[a.eval m, a.eval k]).run P w).andThen fun c w' => .ok (.value c) w' := by
    rw [hex]
    show (do pure (Next.value (← Builtin.delete_ [t, u].toArray o.type #[a.eval m, a.eval k])) : Sem Next).run P w = _
    simp
  have e0 : ([t, u].toArray : Array TypeId)[0]? = some t := rfl
  have e1 : ∀ x y : Value, (#[x, y] : Array Value)[0]? = some x := fun _ _ => rfl
  have e2 : ∀ x y : Value, (#[x, y] : Array Value)[1]? = some y := fun _ _ => rfl
  have RM : ∀ {v}, opd tm m' = some v → VR env v (a.eval m) := fun e => opd_sound hg ht hm e
  have RK : ∀ {v}, opd tm k' = some v → VR env v (a.eval k) := fun e => opd_sound hg ht hk e
  generalize a.eval m = mv at *
  generalize a.eval k = kv at *
  simp only [heavyA] at h
  split at h
  · rename_i kk em ek
    cases h
    have rm := RM em
    simp only [VR] at rm
    subst rm
    have cr := checkKey_run hd hqd true 9999 kv w
    refine ⟨env, w, .tuple #[], .inl ?_, ⟨_, rfl, rfl⟩, hs, Tr.refl _ _ _ _ _⟩
    rw [eo]
    simp only [Builtin.delete_, e0, e1, e2, Sem.run_bind, underlying_run hu, Result.andThen_ok, cr, Sem.run_pure]
  · rename_i id kk em ek
    obtain ⟨L, r1, r2⟩ := RM em
    subst r2
    have rk := RK ek
    split at h
    · rename_i es c hH
      obtain ⟨ob, o1, hL0, arr, rfl, g2⟩ := hs.obj id L _ r1 hH
      have cr := checkKey_run hd hqd arr.isEmpty 9999 kv w
      cases hG : Nat.ble G id <;> rw [hG] at h
      · cases h
      simp only [cond_true] at h
      have hG := Nat.le_of_ble_eq_true hG
      split at h
      · rename_i es' hes
        obtain ⟨p1, rfl, rfl⟩ := up_some h
        have fin : ∀ {ob' : Obj}, OR env L (.map es' c) ob' → (Builtin.delete_ [t, u].toArray o.type #[.map (some L.b), kv]).run P w = .ok (.tuple #[]) { w with heap := w.heap.setIfInBounds L.b ob' } → Acts P G a env H nx' w o undefA H' nx' := by
          intro ob' hor hrun
          obtain ⟨s1, s2⟩ := hs.set (G := G) r1 hG hH rfl p1 hor
          exact ⟨env, _, .tuple #[], .inl (by rw [eo, hrun]; rfl), ⟨_, rfl, rfl⟩, s1, s2⟩
        rcases delE_sound hqd rk 0 g2 hes with ⟨f1, f2⟩ | ⟨j, cc, f0, f1, f2⟩
        · refine fin (ob' := .map arr c) ⟨hL0, arr, rfl, f2⟩ ?_
          have fk : (Instr.findKey kt kv arr.toList).run P w = .ok none w := by
            simp only [Instr.findKey, Sem.run_bind, underlying_run hd, Result.andThen_ok, f1, Sem.run_pure]
          simp only [Builtin.delete_, e0, e1, e2, Sem.run_bind, underlying_run hu, Result.andThen_ok, getObj_map o1, cr, fk, setObj_run o1 (fun _ _ _ h => by cases h), Sem.run_pure]
        · rw [Nat.zero_add] at f1
          simp only [Array.length_toList] at f0
          have he : (arr.eraseIdxIfInBounds j).toList = arr.toList.eraseIdx j := by simp [Array.eraseIdxIfInBounds, f0]
          refine fin (ob' := .map (arr.eraseIdxIfInBounds j) c) ⟨hL0, _, rfl, by rw [he]; exact f2⟩ ?_
          have fk : (Instr.findKey kt kv arr.toList).run P w = .ok (some (j, cc)) w := by
            simp only [Instr.findKey, Sem.run_bind, underlying_run hd, Result.andThen_ok, f1, Sem.run_pure]
          simp only [Builtin.delete_, e0, e1, e2, Sem.run_bind, underlying_run hu, Result.andThen_ok, getObj_map o1, cr, fk, setObj_run o1 (fun _ _ _ h => by cases h), Sem.run_pure]
      · cases h
    · cases h
  · cases h

theorem act_copy (hg : GL G env) (ht : TR env tm a.tmps) (hs : SR env H nx w) {c : Call} {t u e s : Nat} {d' x' : CO} {o : Oper} (ho : o.op = .call c) (hb : c.callee = .builtin .copy) (hx : opdsOf G c.args.toList = some [d', x']) (hts : c.argTypes.toList = [t, u]) (hq : tySlice P t = some (e, s))
    {v : AV} {H' : Hp} {nx' : Nat} (h : heavyA P G (.copy s d' x') tm H nx = .v v H' nx') : Acts P G a env H nx w o v H' nx' := by
  obtain ⟨h1, h2⟩ := slice_info hq
  obtain ⟨y, x, hl, hy, hx⟩ := opds2 hx
  obtain ⟨cs, hex⟩ := exec_b2 (a := a) ho hb hl hts
  have eo : (execOp a.eval o).run P w = ((Builtin.copy_ [t, u].toArray o.type #[a.eval y, a.eval x]).run P w).andThen fun c w' => .ok (.value c) w' := by
    rw [hex]
    show (do pure (Next.value (← Builtin.copy_ [t, u].toArray o.type #[a.eval y, a.eval x])) : Sem Next).run P w = _
    simp
  have e0 : ([t, u].toArray : Array TypeId)[0]? = some t := rfl
  have e1 : ∀ x y : Value, (#[x, y] : Array Value)[0]? = some x := fun _ _ => rfl
  have e2 : ∀ x y : Value, (#[x, y] : Array Value)[1]? = some y := fun _ _ => rfl
  have RY : ∀ {v}, opd tm d' = some v → VR env v (a.eval y) := fun e => opd_sound hg ht hy e
  have RX : ∀ {v}, opd tm x' = some v → VR env v (a.eval x) := fun e => opd_sound hg ht hx e
  generalize a.eval y = yc at *
  generalize a.eval x = xc at *
  simp only [heavyA] at h
  split at h
  · rename_i dv xv ed ex
    have rd := RY ed
    have rx := RX ex
    split at h
    · rename_i l m hsrc
      obtain ⟨newc, n1, n2, n3, n4⟩ := srcA_sound (P := P) hs hsrc rx
      split at h
      · cases h
        simp only [VR] at rd
        subst rd
        refine ⟨env, w, goInt 0, .inl ?_, rfl, hs, Tr.refl _ _ _ _ _⟩
        have hf := n4 0 (Nat.zero_le _)
        rw [eo]
        simp only [Builtin.copy_, e0, e1, e2, Sem.run_bind, underlying_run h1, Result.andThen_ok, n3, sizeOf_run h2]
        have hm0 : Nat.min m 0 = 0 := Nat.min_zero _
        simp only [hm0, hf, Result.andThen_ok, Sem.run_pure]
        rfl
      · cases h
        obtain ⟨ad, k, rfl⟩ := rd
        refine ⟨env, w, goInt 0, .inl ?_, rfl, hs, Tr.refl _ _ _ _ _⟩
        have hf := n4 0 (Nat.zero_le _)
        have hm0 : Nat.min m 0 = 0 := Nat.min_zero _
        rw [eo]
        simp only [Builtin.copy_, e0, e1, e2, Sem.run_bind, underlying_run h1, Result.andThen_ok, n3, sizeOf_run h2, hm0, hf]
        simp only [Array.toList_extract, Nat.zero_mul]
        simp [storeCells]
      · rename_i id off len cap
        obtain ⟨L, k, r0, rfl, _⟩ := rd
        split at h
        · rename_i l' hl'
          obtain ⟨p1, rfl, rfl⟩ := up_some h
          obtain ⟨_, b2⟩ := n1.part0 hl'
          have hf := n4 (Nat.min m len) (Nat.min_le_left _ _)
          have hxs : (newc.extract 0 (Nat.min m len * s)).toList = newc.toList.take (Nat.min m len * s) := by simp
          obtain ⟨w', q1, q2, q3⟩ := wrAt_sound (P := P) hs r0 p1 b2
          refine ⟨env, w', goInt (Nat.min m len), .inl ?_, rfl, q2, q3⟩
          rw [eo]
          simp only [Builtin.copy_, e0, e1, e2, Sem.run_bind, underlying_run h1, Result.andThen_ok, n3, sizeOf_run h2, hf, hxs]
          have q1' : (storeCells ⟨L.b, L.base + off, none⟩ (newc.toList.take (Nat.min m len * s))).run P w = .ok () w' := q1
          simp only [q1', Result.andThen_ok, Sem.run_pure]
        · cases h
      · cases h
    · cases h
  · cases h
end Go.Ev

namespace Go.Ev
variable {P : Program} {G : Nat} {env : Env} {tm : T AV} {a : Act} {H : Hp} {nx : Nat} {w : World}

theorem mm_sound {mx : Bool} : ∀ {l : AV} {x v : AV} {c : Value} {xs : List Value}, mmA mx x l = some v → VR env x c → VL env l xs → ∃ r, (xs.foldlM (if mx then Builtin.max2 else Builtin.min2) c).run P w = .ok r w ∧ VR env v r := by
  intro l
  induction l with
  | nil =>
    rintro x v c xs h hx rfl
    have : v = x := by unfold mmA at h; simpa [eq_comm] using h
    subst this
    exact ⟨c, rfl, hx⟩
  | cons hd tl _ ih =>
    rintro x v c xs h hx ⟨y, ys, rfl, hy, hys⟩
    unfold mmA at h
    split at h
    · cases ‹AV.cons hd tl = AV.nil›
    · rename_i k n j m l' heq
      cases heq
      simp only [VR] at hx hy
      subst hx; subst hy
      have step : ((if mx then Builtin.max2 else Builtin.min2) (.int k n) (.int j m)).run P w = .ok (.int k (bif (bif mx then !(ile m n) else !(ile n m)) then m else n)) w := by
        cases mx
        · simp only [Bool.false_eq_true, if_false, Builtin.min2, Sem.run_pure, cond_false, ile_eq, cond_eq_ite]
          congr 2
          by_cases q : n ≤ m
          · have : ¬ m < n := by omega
            simp [q, this]
          · have : m < n := by omega
            simp [q, this]
        · simp only [if_true, Builtin.max2, Sem.run_pure, cond_true, ile_eq, cond_eq_ite]
          congr 2
          by_cases q : m ≤ n
          · have : ¬ n < m := by omega
            simp [q, this]
          · have : n < m := by omega
            simp [q, this]
      obtain ⟨r, r1, r2⟩ := ih h (c := .int k (bif (bif mx then !(ile m n) else !(ile n m)) then m else n)) rfl hys
      exact ⟨r, by rw [List.foldlM_cons, Sem.run_bind, step]; exact r1, r2⟩
    · cases h
  | _ => intro x v c xs _ _ h; exact h.elim

theorem act_minmax (hg : GL G env) (ht : TR env tm a.tmps) (hs : SR env H nx w) {c : Call} {mx : Bool} {xs : List CO} {o : Oper} (ho : o.op = .call c) (hb : c.callee = .builtin (if mx then .max else .min)) (hx : opdsOf G c.args.toList = some xs)
    {v : AV} {H' : Hp} {nx' : Nat} (h : heavyA P G (.minmax mx xs) tm H nx = .v v H' nx') : Acts P G a env H nx w o v H' nx' := by
  simp only [heavyA] at h
  split at h
  · rename_i x l hl
    obtain ⟨y, ys, e1, r1, r2⟩ := opds_sound hg ht hx hl
    cases hu : mmA mx x l with
    | none => rw [hu] at h; cases h
    | some u =>
      rw [hu] at h
      cases h
      obtain ⟨r, q1, q2⟩ := mm_sound (P := P) (w := w) hu r1 r2
      refine ⟨env, w, r, .inl ?_, q2, hs, Tr.refl _ _ _ _ _⟩
      rw [exec_builtin ho hb]
      have e2 : (c.args.map a.eval).toList = y :: ys := by rw [Array.toList_map]; exact e1
      cases mx with
      | true =>
        show (do pure (Next.value (← Builtin.max_ c.argTypes o.type (c.args.map a.eval))) : Sem Next).run P w = _
        simp only [Builtin.max_, e2, Sem.run_bind]
        rw [if_pos rfl] at q1
        simp only [q1, Result.andThen_ok, Sem.run_pure]
      | false =>
        show (do pure (Next.value (← Builtin.min_ c.argTypes o.type (c.args.map a.eval))) : Sem Next).run P w = _
        simp only [Builtin.min_, e2, Sem.run_bind]
        rw [if_neg (by simp)] at q1
        simp only [q1, Result.andThen_ok, Sem.run_pure]
  · cases h

theorem loadBytes_run {b : Nat} {arr : Array Value} {e : Nat} {fr : Nat × Nat} (h : w.heap[b]? = some (.cells arr e fr)) : ∀ (ns : List Nat) (off : Nat) (acc : ByteArray), (∀ n ∈ ns, n < 256) → off + ns.length ≤ arr.size → ((arr.toList.drop off).take ns.length = (ns.map fun n : Nat => (n : Int)).map (Value.int .u8)) →
    ∃ s, (loadBytes ⟨b, off, none⟩ acc ns.length).run P w = .ok s w ∧ s.data.toList.map (·.toNat) = acc.data.toList.map (·.toNat) ++ ns
  | [], off, acc, _, _, _ => ⟨acc, rfl, by simp⟩
  | n :: ns, off, acc, hn, hl, he => by
    simp only [List.length_cons] at hl he
    have hlt : off < arr.size := by omega
    rw [List.drop_eq_getElem_cons (by simpa using hlt)] at he
    simp only [List.take_succ_cons, List.map_cons, List.cons.injEq] at he
    have hx : arr[off]? = some (.int .u8 (n : Int)) := by
      have := he.1
      simp only [Array.getElem_toList] at this
      simp [hlt, this]
    obtain ⟨s, s1, s2⟩ := loadBytes_run h ns (off + 1) (acc.push (UInt8.ofNat n)) (fun k hk => hn k (by simp [hk])) (by omega) he.2
    refine ⟨s, ?_, ?_⟩
    · simp only [List.length_cons, loadBytes, Sem.run_bind, load_run h hx, Result.andThen_ok, add_none, Int.toNat_natCast]
      exact s1
    · rw [s2]
      have hd : (acc.push (UInt8.ofNat n)).data.toList = acc.data.toList ++ [UInt8.ofNat n] := by simp [ByteArray.push]
      have hm : n % 256 = n := Nat.mod_eq_of_lt (hn n (by simp))
      rw [hd]
      simp [hm]

theorem us_nil {pt : Nat} {ats : Array TypeId} (hats : ats[0]? = some pt) (ty : TypeId) (k : IntKind) : (Builtin.unsafeString_ ats ty #[.pointer none, .int k 0]).run P w = .ok (.string .empty) w := by
  have : Builtin.unsafeString_ ats ty #[.pointer none, .int k 0] = (asInt (.int k 0) >>= _) := rfl
  rw [this]
  simp [asInt, asIntOf, hats, IntKind.max, IntKind.signed, IntKind.bits]

theorem us_some {pt e n b off : Nat} {ats : Array TypeId} (hats : ats[0]? = some pt) (hp : P.underlying pt = some (.pointer e)) (ty : TypeId) (k : IntKind) (hn : n ≤ 200000) (h0 : 0 < n) {s : ByteArray} (hv : (variablesAt ⟨b, off, none⟩ e n).run P w = .ok true w) (hl : (loadBytes ⟨b, off, none⟩ .empty n).run P w = .ok s w) :
    (Builtin.unsafeString_ ats ty #[.pointer (some ⟨b, off, none⟩), .int k (n : Int)]).run P w = .ok (.string s) (w.freeze ⟨b, off, none⟩ n) := by
  have : Builtin.unsafeString_ ats ty #[.pointer (some ⟨b, off, none⟩), .int k (n : Int)] = (asInt (.int k (n : Int)) >>= _) := rfl
  rw [this]
  have c1 : ¬ ((n : Int) < 0) := by omega
  have c2 : ¬ ((n : Int) > IntKind.i64.max) := by simp [IntKind.max, IntKind.signed, IntKind.bits]; omega
  have c3 : ¬ ((n : Int) = 0) := by omega
  have c4 : ¬ (IntKind.i64.max < (n : Int)) := c2
  simp [asInt, asIntOf, hats, c1, c4, c3, elemOf, underlying_run hp, hv, hl]
  rw [if_neg (by omega), if_neg (by omega)]

theorem act_ustr (hg : GL G env) (ht : TR env tm a.tmps) (hs : SR env H nx w) {c : Call} {t e : Nat} {ts : List Nat} {x' n' : CO} {o : Oper} (ho : o.op = .call c) (hb : c.callee = .builtin .unsafeString) (hx : opdsOf G c.args.toList = some [x', n']) (hts : c.argTypes.toList = t :: ts) (hu : P.underlying t = some (.pointer e)) (hsz : tySize P e = some 1)
    {v : AV} {H' : Hp} {nx' : Nat} (h : heavyA P G (.ustr e x' n') tm H nx = .v v H' nx') : Acts P G a env H nx w o v H' nx' := by
  obtain ⟨x, n, hl, hx, hn⟩ := opds2 hx
  obtain ⟨cs, hex⟩ := exec_b2 (a := a) ho hb hl hts
  have hats : ((t :: ts).toArray : Array TypeId)[0]? = some t := by simp
  have eo : (execOp a.eval o).run P w = ((Builtin.unsafeString_ (t :: ts).toArray o.type #[a.eval x, a.eval n]).run P w).andThen fun c w' => .ok (.value c) w' := by
    rw [hex]
    show (do pure (Next.value (← Builtin.unsafeString_ (t :: ts).toArray o.type #[a.eval x, a.eval n])) : Sem Next).run P w = _
    simp
  simp only [heavyA] at h
  split at h
  · rename_i e1 e2
    cases h
    have rx := opd_sound hg ht hx e1
    simp only [VR] at rx
    obtain ⟨k, rn⟩ := nat_opd hg ht hn e2
    refine ⟨env, w, .string .empty, .inl ?_, ⟨_, rfl, rfl⟩, hs, Tr.refl _ _ _ _ _⟩
    rw [eo, rx, rn]
    have := us_nil (P := P) (w := w) hats o.type k
    rw [show ((0 : Nat) : Int) = 0 from rfl, this]
    rfl
  · rename_i id off m e1 e2
    obtain ⟨L, r0, rx⟩ := opd_sound hg ht hx e1
    obtain ⟨k, rn⟩ := nat_opd hg ht hn e2
    split at h
    · rename_i cc nn sz el hq
      split at h
      · rename_i l hl
        split at h
        · rename_i ns H1 hns hput
          cases hbb : (Nat.ble G id && Nat.beq el e && Nat.ble m 100000) <;> rw [hbb] at h <;> cases h
          obtain ⟨b1, b2, b3⟩ := conj3 hbb
          have b2 := Nat.eq_of_beq_eq_true b2
          subst b2
          obtain ⟨arr, fr, g1, g2, g3, g4, g5, g6⟩ := hs.cells r0 hq
          obtain ⟨c1, c2, c3⟩ := getCells_sound g5 hl
          have c2 : L.base + off + (m + 1) ≤ arr.size := by omega
          obtain ⟨d1, d2⟩ := natsA_sound hns c3
          have hlen : ns.length = m + 1 := by
            have := congrArg List.length d1
            simp at this
            omega
          obtain ⟨s, s1, s2⟩ := loadBytes_run (P := P) g1 ns (L.base + off) .empty d2 (by omega) (by rw [hlen]; exact d1)
          rw [hlen] at s1
          have va := variablesAt_self (P := P) (w := w) (n := m + 1) (off := L.base + off) g1 hsz (by omega) (Nat.mod_one _)
          have us := us_some (P := P) (w := w) (n := m + 1) hats hu o.type k (by have := Nat.le_of_ble_eq_true b3; omega) (by omega) va s1
          refine ⟨env, w.freeze ⟨L.b, L.base + off, none⟩ (m + 1), .string s, .inl ?_, ⟨s, rfl, by simpa using s2⟩, ?_⟩
          · rw [eo, rx, rn, us]; rfl
          · have hm : ¬ (m + 1 = 0) := by omega
            have hfz : (w.freeze ⟨L.b, L.base + off, none⟩ (m + 1)).heap = w.heap.modify L.b (fun
              | .cells c elem (lo, hi) => .cells c elem (if lo == hi then (L.base + off, L.base + off + (m + 1)) else (min lo (L.base + off), max hi (L.base + off + (m + 1))))
              | o => o) := by
              unfold World.freeze
              rw [if_neg hm]
              rfl
            have hlt := (hs.bnd id L r0).1
            obtain ⟨ob, hob⟩ : ∃ ob, (w.freeze ⟨L.b, L.base + off, none⟩ (m + 1)).heap[L.b]? = some ob := by
              rw [hfz, Array.getElem?_modify, if_pos rfl, g1]; exact ⟨_, rfl⟩
            refine hs.turn (o' := .dead) r0 (Nat.le_of_ble_eq_true b1) hq rfl hput (fun b hb => ?_) hob ?_ ?_ ?_ ?_ trivial
            · rw [hfz, Array.getElem?_modify]
              have : ¬ L.b = b := fun e => hb e.symm
              simp [this]
            · rw [hfz]; simp
            · unfold World.freeze; rw [if_neg hm]
            · unfold World.freeze; rw [if_neg hm]
            · unfold World.freeze; rw [if_neg hm]
        · cases h
      · cases h
    · cases h
  · cases h
end Go.Ev
