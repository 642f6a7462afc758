/- An evaluator of the model, and why what it tells is so (part 3). No condition. -/
import Derived.Test.YtekecchdjkkoeaaGreatDoorEv2
import Derived.Defers
import Derived.Orders
import Derived.Scope
import Derived.Test.YtekecchdjkkoeaaGreatDoorEv1
import Derived.Lib.Bytealg
set_option linter.unusedVariables false
set_option linter.unusedSimpArgs false
namespace Go.Ev
variable {P : Program} {G : Nat} {env : Env} {tm : T AV} {a : Act} {H : Hp} {nx : Nat} {w : World}

/-- what is appended, or copied from -/
theorem srcA_sound (hs : SR env H nx w) {size : Nat} {x l : AV} {m : Nat} (h : srcA H size x = some (l, m)) {c : Value} (hx : VR env x c) :
    ∃ xs : Array Value, VL env l xs.toList ∧ xs.size = m * size ∧ (Builtin.lenOf c).run P w = .ok m w ∧ (∀ n, n ≤ m → (Builtin.firstCells size n c).run P w = .ok (xs.extract 0 (n * size)) w) := by
  unfold srcA at h
  split at h
  · cases h
    simp only [VR] at hx
    exact ⟨#[], rfl, by simp, by rw [hx]; rfl, fun n hn => by rw [hx]; simp [Builtin.firstCells]⟩
  · cases h
    obtain ⟨ad, k, rfl⟩ := hx
    refine ⟨#[], rfl, by simp, rfl, fun n hn => ?_⟩
    have : n = 0 := by omega
    subst this
    simp [Builtin.firstCells, loadCells, loadCellsFrom]
  · rename_i id off len cap
    split at h
    · rename_i l' hl
      cases h
      obtain ⟨L, k, r0, rfl, _⟩ := hx
      obtain ⟨c', m', sz, e, arr, fr, q1, q2, q3, q4, q5⟩ := rdAt_sound hs r0 hl
      have hms : Nat.mul m size = m * size := rfl
      rw [hms] at q3 q4 q5
      rcases Nat.eq_zero_or_pos (m * size) with h0 | hpos
      · refine ⟨#[], by rw [h0] at q4; simpa using q4, by simp [h0], rfl, fun n hn => ?_⟩
        have hn0 : n * size = 0 := by
          have : n * size ≤ m * size := Nat.mul_le_mul_right _ hn
          omega
        simp [Builtin.firstCells, hn0, loadCells, loadCellsFrom]
      · have q3 : L.base + off + m * size ≤ arr.size := by omega
        refine ⟨arr.extract (L.base + off) (L.base + off + m * size), by rw [extract_toList]; exact q4, by simp; omega, rfl, fun n hn => ?_⟩
        have hle : n * size ≤ m * size := Nat.mul_le_mul_right _ hn
        simp only [Builtin.firstCells]
        rw [loadCells_run q2 (by omega)]
        congr 1
        apply Array.ext'
        simp only [Array.toList_extract, List.extract_eq_take_drop, Nat.add_sub_cancel_left, Nat.sub_zero, List.drop_zero, List.take_take]
        rw [Nat.min_eq_left hle]
    · cases h
  · rename_i l'
    cases hb : Nat.beq size 1 <;> rw [hb] at h <;> cases h
    cases Nat.eq_of_beq_eq_true hb
    obtain ⟨s, rfl, rfl⟩ := hx
    have hl : (s.data.toList.map (·.toNat)).length = s.size := by simp
    refine ⟨(s.data.map fun b => Value.int .u8 b.toNat), ?_, by simp, by rw [hl]; rfl, fun n hn => ?_⟩
    · have := bytesA_VL env (s.data.toList.map (fun b : UInt8 => b.toNat))
      rw [List.map_map] at this
      rw [Array.toList_map]
      exact this
    · rw [hl] at hn
      simp only [Builtin.firstCells, Sem.run_pure]
      congr 1
      apply Array.ext'
      simp [List.map_take]
  · cases h

/-- a row moves on: where it lay, with more known of it -/
theorem SR.move (hs : SR env H nx w) {w' : World} {id : Nat} {L L' : Loc} {c c' : T AV} {n n' sz e e' : Nat} {H1 H2 : Hp} (he : env id = some L) (hG : G ≤ id) (hq : H.get id = some (.cells c n sz e)) (hb : L'.b = L.b)
    (h1 : H.put id .dead = some H1) (h2 : H1.put nx (.cells c' n' sz e') = some H2) {ob : Obj} (hw : ∀ b, b ≠ L.b → w'.heap[b]? = w.heap[b]?) (hwb : w'.heap[L.b]? = some ob) (hsz : w'.heap.size = w.heap.size) (ho : w'.os = w.os) (ht : w'.tape = w.tape) (hout : w'.output = w.output)
    (hor : ∀ env', Le env env' → OR env' L' (.cells c' n' sz e') ob) :
    ∃ env', env' nx = some L' ∧ Le env env' ∧ SR env' H2 (nx + 1) w' ∧ Tr G env H nx w env' H2 (nx + 1) w' := by
  have hlt := hs.bnd id L he
  have hnone : env nx = none := by cases e : env nx with | none => rfl | some K => have := (hs.bnd nx K e).2; omega
  have hne : id ≠ nx := by omega
  have hle : Le env (fun i => if i = nx then some L' else env i) := fun i K hK => by
    have : i ≠ nx := fun e => by subst e; rw [hnone] at hK; cases hK
    simp [this, hK]
  have get2 : ∀ i q, H2.get i = some q → (i = nx ∧ q = .cells c' n' sz e') ∨ (i = id ∧ q = .dead) ∨ (i ≠ nx ∧ i ≠ id ∧ H.get i = some q) := by
    intro i q hi
    by_cases e1 : i = nx
    · subst e1; rw [T.get_put_same h2] at hi; cases hi; exact .inl ⟨rfl, rfl⟩
    · rw [T.get_put_ne h2 e1] at hi
      by_cases e2 : i = id
      · subst e2; rw [T.get_put_same h1] at hi; cases hi; exact .inr (.inl ⟨rfl, rfl⟩)
      · rw [T.get_put_ne h1 e2] at hi; exact .inr (.inr ⟨e1, e2, hi⟩)
  refine ⟨fun i => if i = nx then some L' else env i, by simp, hle, ⟨?_, ?_, ?_, ?_⟩, ⟨hle, by omega, ?_, ?_, by omega, ?_, ho, ht, hout⟩⟩
  · intro i K q hK hqq
    rcases get2 i q hqq with ⟨rfl, rfl⟩ | ⟨rfl, rfl⟩ | ⟨e1, e2, hq'⟩
    · simp at hK; subst hK; exact ⟨ob, by rw [hb]; exact hwb, hor _ hle⟩
    · simp [hne] at hK; rw [he] at hK; cases hK; exact ⟨ob, hwb, trivial⟩
    · simp [e1] at hK
      obtain ⟨ob', g1, g2⟩ := hs.obj i K q hK hq'
      by_cases hlv : q.live = true
      · refine ⟨ob', ?_, g2.ext hle⟩
        rw [hw _ ?_, g1]
        intro hbb
        exact e2 (hs.inj i id K L q _ hK he hq' hq hlv rfl hbb)
      · cases q <;> simp [AO.live] at hlv
        by_cases hbb : K.b = L.b
        · exact ⟨ob, by rw [hbb]; exact hwb, trivial⟩
        · exact ⟨ob', by rw [hw _ hbb, g1], trivial⟩
  · intro i K hK
    by_cases e1 : i = nx
    · subst e1; simp at hK; subst hK; exact ⟨by omega, by omega⟩
    · simp [e1] at hK; have := hs.bnd i K hK; exact ⟨by omega, by omega⟩
  · intro i j K K' q q' hK hK' hq1 hq2 l1 l2 hbb
    rcases get2 i q hq1 with ⟨rfl, rfl⟩ | ⟨rfl, rfl⟩ | ⟨e1, e2, hqi⟩
    · rcases get2 j q' hq2 with ⟨rfl, rfl⟩ | ⟨rfl, rfl⟩ | ⟨f1, f2, hqj⟩
      · rfl
      · cases l2
      · simp at hK; subst hK; simp [f1] at hK'
        exact absurd (hs.inj j id K' L q' _ hK' he hqj hq l2 rfl (by omega)) f2
    · cases l1
    · simp [e1] at hK
      rcases get2 j q' hq2 with ⟨rfl, rfl⟩ | ⟨rfl, rfl⟩ | ⟨f1, f2, hqj⟩
      · simp at hK'; subst hK'
        exact absurd (hs.inj i id K L q _ hK he hqi hq l1 rfl (by omega)) e2
      · cases l2
      · simp [f1] at hK'
        exact hs.inj i j K K' q q' hK hK' hqi hqj l1 l2 hbb
  · intro i hi
    rw [T.get_put_ne h2 (by omega), T.get_put_ne h1 (by omega)]
    exact hs.top i (by omega)
  · intro i K hK
    by_cases e1 : i = nx
    · subst e1; simp at hK; subst hK; exact .inr ⟨Nat.le_refl _, .inr ⟨id, L, hG, he, hb.symm⟩⟩
    · simp [e1] at hK; exact .inl hK
  · intro i hi hn
    have e2 : i ≠ id := fun e => by subst e; rw [he] at hn; cases hn
    rw [T.get_put_ne h2 (by omega), T.get_put_ne h1 e2]
  · intro b _ hn; exact hw b (fun e => hn id L hG he e.symm)

set_option maxRecDepth 4000 in
theorem growBy_le (newLen : Nat) : ∀ (r c : Nat), Builtin.growBy newLen r c ≤ (c + 768) * 2 ^ r
  | 0, c => by simp [Builtin.growBy]
  | r + 1, c => by
    unfold Builtin.growBy
    split
    · have : 1 ≤ 2 ^ (r + 1) := Nat.one_le_two_pow
      calc c ≤ c + 768 := by omega
        _ = (c + 768) * 1 := by omega
        _ ≤ _ := Nat.mul_le_mul_left _ this
    · have ih := growBy_le newLen r (c + (c + 768) / 4)
      have : (c + (c + 768) / 4 + 768) * 2 ^ r ≤ ((c + 768) * 2) * 2 ^ r := Nat.mul_le_mul_right _ (by omega)
      rw [Nat.pow_succ, Nat.mul_comm (2 ^ r) 2, ← Nat.mul_assoc]
      omega

set_option maxRecDepth 4000 in
theorem nextcap_le (need cap : Nat) (h : cap < need) (hn : need ≤ 200000) : Builtin.nextslicecap need cap ≤ 4000000 := by
  unfold Builtin.nextslicecap
  split
  · omega
  · split
    · omega
    · have := growBy_le need 4 cap
      have : (cap + 768) * 2 ^ 4 = (cap + 768) * 16 := rfl
      omega

/-- 'append' where there is room -/
theorem append_in {t e size : Nat} {ty : TypeId} {u : Nat} {d : TypeDesc} (h1 : P.underlying t = some (.slice e)) (h2 : tySize P e = some size) (h3 : P.underlying u = some d) (h4 : ∀ k, d ≠ .int k)
    {base : Option Addr} {len cap : Nat} {c : Value} {m : Nat} (hl : (Builtin.lenOf c).run P w = .ok m w) {new : Array Value} (hf : (Builtin.firstCells size m c).run P w = .ok new w) (hin : len + m ≤ cap) {w' : World}
    (hst : ((match base with | some a => storeCells (a.add (len * size)) new.toList | none => pure ()) : Sem Unit).run P w = .ok () w') : (Builtin.append_ #[t, u] ty #[.slice base len cap, c]).run P w = .ok (.slice base (len + m) cap) w' := by
  have hz : (match d with | .int _ => true | _ => false) = false := by cases d <;> first | rfl | exact absurd rfl (h4 _)
  have e0 : (#[t, u] : Array TypeId)[0]? = some t := rfl
  have e1 : (#[t, u] : Array TypeId)[1]? = some u := rfl
  have e2 : (#[Value.slice base len cap, c] : Array Value)[0]? = some (.slice base len cap) := rfl
  have e3 : (#[Value.slice base len cap, c] : Array Value)[1]? = some c := rfl
  unfold Builtin.append_
  simp only [e0, e1, e2, e3, Sem.run_bind, underlying_run h1, Result.andThen_ok, sizeOf_run h2, underlying_run h3, Sem.run_pure]
  cases d <;> first | (exact absurd rfl (h4 _)) | (
    simp only [Sem.run_bind, Sem.run_pure, Result.andThen_ok, Bool.false_eq_true, if_false, hl, hin, if_true, Bool.not_false, hf]
    cases base with
    | none => simp only [Sem.run_pure] at hst; cases hst; rfl
    | some ad => simp only at hst; simp only [Sem.run_bind, hst, Result.andThen_ok, Sem.run_pure])

/-- 'append' where there is none -/
theorem append_grow {t e size : Nat} {ty : TypeId} {u : Nat} {d : TypeDesc} (h1 : P.underlying t = some (.slice e)) (h2 : tySize P e = some size) (h3 : P.underlying u = some d) (h4 : ∀ k, d ≠ .int k)
    {base : Option Addr} {len cap : Nat} {c : Value} {m : Nat} (hl : (Builtin.lenOf c).run P w = .ok m w) (hout : cap < len + m) (hlm : len + m ≤ 200000) (hsm : smallBytes P e = true) {z : AV} (hz : tyZeroC P e = some z) (hzl : z.len = size)
    {old new : Array Value} (w1 : World) (hw1 : w1 = { w with drawn := w.drawn + 1 }) (hf : (Builtin.firstCells size m c).run P w1 = .ok new w1) (ho : (Builtin.firstCells size len (.slice base len cap)).run P w1 = .ok old w1) :
    ∃ ncap rest, len + m ≤ ncap ∧ rest.size = (ncap - (len + m)) * size ∧ (Builtin.append_ #[t, u] ty #[.slice base len cap, c]).run P w = .ok (.slice (some ⟨w.heap.size, 0, none⟩) (len + m) ncap) { w1 with heap := w.heap.push (.cells (old ++ new ++ rest) e) } := by
  have e0 : (#[t, u] : Array TypeId)[0]? = some t := rfl
  have e1 : (#[t, u] : Array TypeId)[1]? = some u := rfl
  have e2 : (#[Value.slice base len cap, c] : Array Value)[0]? = some (.slice base len cap) := rfl
  have e3 : (#[Value.slice base len cap, c] : Array Value)[1]? = some c := rfl
  obtain ⟨zv, z1, z2⟩ := zeroC_run hz w1
  have hzs : zv.cells.size = size := by have := (z2 (fun _ => none)).len; simp at this; omega
  unfold smallBytes at hsm
  split at hsm
  case h_2 => cases hsm
  rename_i i hi
  have hby : i.bytes ≤ 1000000 := Nat.le_of_ble_eq_true hsm
  let ncap := (Question.appendCap (len + m) cap e).cut (w.tape w.drawn (.appendCap (len + m) cap e))
  have hnc : len + m ≤ ncap := by show len + m ≤ len + m + _; omega
  refine ⟨ncap, Builtin.zeroCells zv.cells (ncap - (len + m)), hnc, by simp [Builtin.zeroCells, hzs], ?_⟩
  have c1 : ¬ (len + m ≤ cap) := by omega
  have c2 : ¬ (((len + m : Nat) : Int) > IntKind.i64.max ∧ (False ∨ i.bytes = 0)) := by
    intro h
    have := h.1
    simp [IntKind.max, IntKind.signed, IntKind.bits] at this
    omega
  have c3 : ¬ (Builtin.nextslicecap (len + m) cap * i.bytes > 2 ^ 48) := by
    have a1 := nextcap_le (len + m) cap hout hlm
    have a2 : Builtin.nextslicecap (len + m) cap * i.bytes ≤ 4000000 * 1000000 := Nat.mul_le_mul a1 hby
    generalize Builtin.nextslicecap (len + m) cap * i.bytes = q at a2
    omega
  unfold Builtin.append_
  simp only [e0, e1, e2, e3, Sem.run_bind, underlying_run h1, Result.andThen_ok, sizeOf_run h2, underlying_run h3, Sem.run_pure]
  subst hw1
  cases d <;> first | (exact absurd rfl (h4 _)) | (
    simp only [Sem.run_bind, Sem.run_pure, Result.andThen_ok, Bool.false_eq_true, if_false, hl, c1, typeInfo, run_program, hi, Sem.run_ite, c2, c3, run_choose, Question.forced, run_askRoom]
    simp only [ho, Result.andThen_ok, Bool.not_false, if_true, hf, z1, newRow_run, c2, if_false]
    rfl)

/-- a row put together out of an old one and what is new -/
def Cat (c'' c : T AV) (off k : Nat) (new : AV) : Prop :=
  ∀ i v, c''.get i = some v → (i < k ∧ c.get (off + i) = some v) ∨ (k ≤ i ∧ i < k + new.len ∧ new.nth (i - k) = some v)

theorem cat_reuse {c c'' : T AV} {n : Nat} {new : AV} (hr : new.isRow = true) (h : putCells c n new = some c'') (hc : ∀ i v, c.get i = some v → i < n) : Cat c'' c 0 n new := by
  intro i v hv
  have := putCells_get hr h i
  rw [hv] at this
  split at this
  · rename_i hin; exact .inr ⟨hin.1, hin.2, this.symm⟩
  · have heq := this.symm; exact .inl ⟨hc i v heq, by rw [Nat.zero_add]; exact heq⟩

theorem app_nth_lt : ∀ {x y : AV} {i : Nat}, x.isRow = true → i < x.len → (x.app y).nth i = x.nth i := by
  intro x
  induction x with
  | cons h t _ iht =>
    intro y i hr hi
    cases i with
    | zero => rfl
    | succ i => exact iht hr (by have : (AV.cons h t).len = t.len + 1 := rfl; omega)
  | nil => intro y i _ hi; exact absurd hi (Nat.not_lt_zero _)
  | _ => intro y i hr; cases hr
theorem app_nth_ge : ∀ {x y : AV} {i : Nat}, x.isRow = true → x.len ≤ i → (x.app y).nth i = y.nth (i - x.len) := by
  intro x
  induction x with
  | cons h t _ iht =>
    intro y i hr hi
    have hl : (AV.cons h t).len = t.len + 1 := rfl
    cases i with
    | zero => omega
    | succ i =>
      have := iht (y := y) (i := i) hr (by omega)
      rw [hl, Nat.add_sub_add_right]
      exact this
  | nil => intro y i _ _; rfl
  | _ => intro y i hr; cases hr
theorem app_len : ∀ {x y : AV}, x.isRow = true → (x.app y).len = x.len + y.len := by
  intro x
  induction x with
  | cons h t _ iht =>
    intro y hr
    have := iht (y := y) hr
    show Nat.succ ((t.app y).len) = Nat.succ t.len + y.len
    rw [this]; omega
  | nil => intro y _; exact (Nat.zero_add _).symm
  | _ => intro y hr; cases hr
theorem app_isRow : ∀ {x y : AV}, x.isRow = true → y.isRow = true → (x.app y).isRow = true := by
  intro x
  induction x with
  | cons h t _ iht => intro y hr hy; exact iht hr hy
  | nil => intro y _ hy; exact hy
  | _ => intro y hr; cases hr

theorem getCells_nth {c : T AV} : ∀ {n off : Nat} {l : AV}, getCells c off n = some l → l.isRow = true ∧ l.len = n ∧ ∀ i v, l.nth i = some v → c.get (off + i) = some v := by
  intro n
  induction n with
  | zero => intro off l h; simp [getCells] at h; subst h; exact ⟨rfl, rfl, fun i v h => by cases i <;> cases h⟩
  | succ n ih =>
    intro off l h
    simp only [getCells] at h
    split at h
    · rename_i v hv
      split at h
      · rename_i l' hl
        cases h
        obtain ⟨h1, h2, h3⟩ := ih hl
        refine ⟨h1, by show Nat.succ l'.len = _; rw [h2], fun i u hu => ?_⟩
        cases i with
        | zero => simp [AV.nth] at hu; subst hu; simpa using hv
        | succ i =>
          have := h3 i u hu
          rw [show off + (i + 1) = Nat.succ off + i by omega]
          exact this
      · cases h
    · cases h

theorem cat_row {c c'' : T AV} {off k : Nat} {old new : AV} (ho : getCells c off k = some old) (hr : new.isRow = true) (h : rowOf (old.app new) = some c'') : Cat c'' c off k new := by
  obtain ⟨g1, g2, g3⟩ := getCells_nth ho
  intro i v hv
  have := putCells_get (app_isRow g1 hr) h i
  rw [hv] at this
  simp only [Nat.zero_le, true_and, Nat.zero_add, Nat.sub_zero, T.get_e] at this
  split at this
  · rename_i hin
    rw [app_len g1, g2] at hin
    rcases Nat.lt_or_ge i k with hik | hik
    · rw [app_nth_lt g1 (by omega)] at this
      exact .inl ⟨hik, g3 i v this.symm⟩
    · rw [app_nth_ge g1 (by omega), g2] at this
      exact .inr ⟨hik, hin, this.symm⟩
  · cases this
end Go.Ev

namespace Go.Ev
variable {P : Program} {G : Nat} {env : Env} {tm : T AV} {a : Act} {H : Hp} {nx : Nat} {w : World}

theorem rnew_some {a0 : AV} {H : Hp} {nx : Nat} {o : AO} {v : AV} {H' : Hp} {nx' : Nat} (h : R.new a0 H nx o = .v v H' nx') : H.put nx o = some H' ∧ v = a0 ∧ nx' = nx + 1 := by
  unfold R.new at h
  split at h
  · rename_i H1 e; cases h; exact ⟨e, rfl, rfl⟩
  · cases h

theorem loadCells_run' {b off n : Nat} {arr : Array Value} {e : Nat} {fr : Nat × Nat} (h : w.heap[b]? = some (.cells arr e fr)) (hl : n = 0 ∨ off + n ≤ arr.size) : (loadCells ⟨b, off, none⟩ n).run P w = .ok (arr.extract off (off + n)) w := by
  rcases Nat.eq_zero_or_pos n with rfl | hn
  · have : arr.extract off (off + 0) = #[] := by apply Array.eq_empty_of_size_eq_zero; simp; omega
    rw [this]; simp [loadCells, loadCellsFrom]
  · exact loadCells_run h (by omega)

/-- a world that has drawn once more -/
theorem SR.drawn (hs : SR env H nx w) : SR env H nx { w with drawn := w.drawn + 1 } := ⟨hs.obj, hs.bnd, hs.inj, hs.top⟩

/-- the row that is made where there is no room -/
theorem OR_grown {c'' c : T AV} {off k size : Nat} {new : AV} (hcat : Cat c'' c off k new) {arr old newc rest : Array Value} {base : Nat} {m : Nat} (hc : ∀ i v, c.get i = some v → ∃ x, arr[base + i]? = some x ∧ VR env v x)
    (hold : ∀ i, i < k → old[i]? = arr[base + off + i]?) (hk : old.size = k) (hnew : VL env new newc.toList) {ncap len : Nat} (hkl : k = len * size) (hm : newc.size = m * size) (hle : len + m ≤ ncap) (hrest : rest.size = (ncap - (len + m)) * size) (h0 : 0 < size) (b e : Nat) :
    OR env ⟨b, 0, ncap * size, size⟩ (.cells c'' ((len + m) * size) size e) (.cells (old ++ newc ++ rest) e (0, 0)) := by
  have hsz : (old ++ newc ++ rest).size = ncap * size := by
    simp only [Array.size_append, hk, hkl, hm, hrest]
    rw [← Nat.add_mul, ← Nat.add_mul]
    congr 1; omega
  have hmul : (len + m) * size ≤ ncap * size := Nat.mul_le_mul_right _ hle
  have hadd : (len + m) * size = len * size + m * size := Nat.add_mul _ _ _
  have hlen := hnew.len
  simp only [Array.length_toList] at hlen
  refine ⟨_, (0, 0), rfl, by rw [hsz]; simpa using hmul, fun h => by omega, fun _ => ⟨rfl, by rw [hsz]; simp⟩, fun i v hv => ?_, fun k _ h => by have := h.2; simp at this⟩
  rcases hcat i v hv with ⟨h1, h2⟩ | ⟨h1, h2, h3⟩
  · obtain ⟨x, hx, r⟩ := hc _ _ h2
    refine ⟨by omega, x, ?_, r⟩
    rw [Nat.zero_add, Array.append_assoc, Array.getElem?_append_left (by omega), hold i h1, Nat.add_assoc]
    exact hx
  · obtain ⟨x, hx, r⟩ := hnew.nth h3
    refine ⟨by omega, x, ?_, r⟩
    have hx' : newc[i - k]? = some x := by rw [← Array.getElem?_toList]; exact hx
    rw [Nat.zero_add, Array.append_assoc, Array.getElem?_append_right (by omega), hk, Array.getElem?_append_left (by omega)]
    exact hx'

theorem act_append_run (hs : SR env H nx w) {t e size u : Nat} {ty : TypeId} {d : TypeDesc} (h1 : P.underlying t = some (.slice e)) (h2 : tySize P e = some size) (h3 : P.underlying u = some d) (h4 : ∀ k, d ≠ .int k) (hsm : smallBytes P e = true) {z : AV} (hz : tyZeroC P e = some z) (hzl : z.len = size) (h0 : 0 < size)
    {s x : AV} {sc xc : Value} (hsv : VR env s sc) (hx : VR env x xc) {v : AV} {H' : Hp} {nx' : Nat} (h : appendA G H nx size e s x = .v v H' nx') :
    ∃ env' w' c, (Builtin.append_ #[t, u] ty #[sc, xc]).run P w = .ok c w' ∧ VR env' v c ∧ SR env' H' nx' w' ∧ Tr G env H nx w env' H' nx' w' := by
  unfold appendA at h
  split at h
  · cases h
  · rename_i new m hsrc
    obtain ⟨newc, n1, n2, n3, n4⟩ := srcA_sound (P := P) hs hsrc hx
    have hf : (Builtin.firstCells size m xc).run P w = .ok newc w := by
      rw [n4 m (Nat.le_refl _), ← n2]; simp
    obtain ⟨newc', n1', n2', n3', n4'⟩ := srcA_sound (P := P) hs.drawn hsrc hx
    have hlenn := n1.len
    simp only [Array.length_toList] at hlenn
    have hf' : ∃ newd : Array Value, VL env new newd.toList ∧ newd.size = m * size ∧ (Builtin.firstCells size m xc).run P { w with drawn := w.drawn + 1 } = .ok newd { w with drawn := w.drawn + 1 } :=
      ⟨newc', n1', n2', by rw [n4' m (Nat.le_refl _), ← n2']; simp⟩
    obtain ⟨newd, d1, d2, d3⟩ := hf'
    cases hbm : Nat.ble m 100000 <;> rw [hbm] at h
    · cases h
    simp only [cond_true] at h
    have hbm := Nat.le_of_ble_eq_true hbm
    split at h
    · -- nil
      simp only [VR] at hsv
      subst hsv
      cases hm0 : Nat.beq m 0 <;> rw [hm0] at h
      · simp only [cond_false] at h
        have hmne : m ≠ 0 := fun e => by subst e; cases hm0
        split at h
        · rename_i c hr
          obtain ⟨p1, rfl, rfl⟩ := rnew_some h
          obtain ⟨ncap, rest, g1, g2, g3⟩ := append_grow (ty := ty) h1 h2 h3 h4 (base := none) (len := 0) (cap := 0) n3 (by omega) (by omega) hsm hz hzl (old := #[]) { w with drawn := w.drawn + 1 } rfl d3 (by simp [Builtin.firstCells])
          have hcat : Cat c .e 0 0 new := cat_reuse n1.isRow hr (fun i v hv => by simp at hv)
          obtain ⟨env', q1, q2, q3, _⟩ := SR.new (G := G) (w' := { w with drawn := w.drawn + 1, heap := w.heap.push (.cells (#[] ++ newd ++ rest) e) }) hs ⟨w.heap.size, 0, ncap * size, size⟩ rfl p1 rfl rfl rfl rfl (fun env' hle _ => by
            have := OR_grown (env := env') (arr := #[]) (old := #[]) (base := 0) (len := 0) hcat (fun i v hv => by simp at hv) (fun i hi => by omega) rfl (d1.ext hle) (by simp) d2 g1 g2 h0 w.heap.size e
            simpa using this)
          refine ⟨env', _, _, g3, ⟨_, ncap, q1, by simp, by show 0 + ncap * size = ncap * size; omega⟩, q2, q3⟩
        · cases h
      · simp only [cond_true] at h
        cases h
        cases Nat.eq_of_beq_eq_true hm0
        have hr := append_in (P := P) (w := w) (ty := ty) h1 h2 h3 h4 (base := none) (len := 0) (cap := 0) n3 hf (Nat.le_refl _) (w' := w) rfl
        exact ⟨env, w, _, hr, rfl, hs, Tr.refl _ _ _ _ _⟩
    · -- empty, its place unknown
      obtain ⟨ad, k, rfl⟩ := hsv
      cases hm0 : Nat.beq m 0 <;> rw [hm0] at h
      · cases h
      · simp only [cond_true] at h
        cases h
        cases Nat.eq_of_beq_eq_true hm0
        have hn0 : newc = #[] := by apply Array.eq_empty_of_size_eq_zero; omega
        subst hn0
        have hr := append_in (P := P) (w := w) (ty := ty) h1 h2 h3 h4 (base := some ad) (len := 0) (cap := k) n3 hf (Nat.zero_le _) (w' := w) rfl
        exact ⟨env, w, _, hr, ⟨ad, k, rfl⟩, hs, Tr.refl _ _ _ _ _⟩
    · rename_i id off len cap
      obtain ⟨L, kc, r0, rfl, rc⟩ := hsv
      cases hbl : Nat.ble len 100000 <;> rw [hbl] at h
      · cases h
      simp only [cond_true] at h
      have hbl := Nat.le_of_ble_eq_true hbl
      split at h
      · rename_i c n sz el hq
        obtain ⟨arr, fr, g1, g2, g3, g4, g5, g6⟩ := hs.cells r0 hq
        -- in place
        have inplace : ∀ {H1 : Hp}, len + m ≤ kc → wrAt G H id (off + len * size) new = some H1 → ∃ w', (Builtin.append_ #[t, u] ty #[.slice (some ⟨L.b, L.base + off, none⟩) len kc, xc]).run P w = .ok (.slice (some ⟨L.b, L.base + off, none⟩) (len + m) kc) w' ∧ SR env H1 nx w' ∧ Tr G env H nx w env H1 nx w' := by
          intro H1 hin hwr
          obtain ⟨w', q1, q2, q3⟩ := wrAt_sound (P := P) hs r0 hwr n1
          exact ⟨w', append_in h1 h2 h3 h4 n3 hf hin (by simp only [add_none]; rw [Nat.add_assoc]; exact q1), q2, q3⟩
        have grown : ∀ {H0 H1 : Hp} {c'' : T AV}, kc < len + m → (len * size = 0 ∨ L.base + off + len * size ≤ arr.size) → (H0 = H ∨ (G ≤ id ∧ H.put id .dead = some H0)) → Cat c'' c off (len * size) new → H0.put nx (.cells c'' ((len + m) * size) size e) = some H1 →
            ∃ env' w' r, (Builtin.append_ #[t, u] ty #[.slice (some ⟨L.b, L.base + off, none⟩) len kc, xc]).run P w = .ok r w' ∧ VR env' (.sl nx 0 (len + m) none) r ∧ SR env' H1 (nx + 1) w' ∧ Tr G env H nx w env' H1 (nx + 1) w' := by
          intro H0 H1 c'' hout hfit hH0 hcat hput
          have g1' : ({ w with drawn := w.drawn + 1 } : World).heap[L.b]? = some (.cells arr el fr) := g1
          obtain ⟨ncap, rest, q1, q2, q3⟩ := append_grow (ty := ty) h1 h2 h3 h4 (base := some ⟨L.b, L.base + off, none⟩) (len := len) (cap := kc) n3 hout (by omega) hsm hz hzl (old := arr.extract (L.base + off) (L.base + off + len * size)) { w with drawn := w.drawn + 1 } rfl d3 (by simp only [Builtin.firstCells]; exact loadCells_run' g1' hfit)
          have hsH : SR env H0 nx w ∧ Tr G env H nx w env H0 nx w := by
            rcases hH0 with rfl | ⟨hG, hk⟩
            · exact ⟨hs, Tr.refl _ _ _ _ _⟩
            · exact hs.kill hq ⟨L, r0⟩ hk
          obtain ⟨env', p1, p2, p3, _⟩ := SR.new (G := G) (w' := { w with drawn := w.drawn + 1, heap := w.heap.push (.cells (arr.extract (L.base + off) (L.base + off + len * size) ++ newd ++ rest) e) }) hsH.1 ⟨w.heap.size, 0, ncap * size, size⟩ rfl hput rfl rfl rfl rfl (fun env' hle _ =>
            OR_grown (env := env') (arr := arr) (old := arr.extract (L.base + off) (L.base + off + len * size)) (base := L.base) hcat (fun i v hv => let ⟨_, x, hx, r⟩ := g5 i v hv; ⟨x, hx, r.ext hle⟩) (fun i hi => by
              rw [Array.getElem?_extract]
              have : i < min (L.base + off + len * size) arr.size - (L.base + off) := by omega
              simp [this]) (by simp only [Array.size_extract]; omega) (d1.ext hle) rfl d2 q1 q2 h0 w.heap.size e)
          exact ⟨env', _, _, q3, ⟨_, ncap, p1, by simp, by show 0 + ncap * size = ncap * size; omega⟩, p2, hsH.2.trans p3⟩
        have hmn : Nat.mul len size = len * size := rfl
        split at h
        · rename_i k
          simp only at rc
          subst rc
          cases hfit : Nat.ble (Nat.add len m) kc <;> rw [hfit] at h
          · simp only [cond_false] at h
            have hout : kc < len + m := by
              rcases Nat.lt_or_ge kc (len + m) with q | q
              · exact q
              · have : Nat.ble (Nat.add len m) kc = true := Nat.ble_eq_true_of_le q
                rw [hfit] at this; cases this
            split at h
            · rename_i old hold
              split at h
              · rename_i c'' hr
                obtain ⟨p1, rfl, rfl⟩ := rnew_some h
                obtain ⟨_, b2, _⟩ := getCells_sound g5 hold
                obtain ⟨env', w', r, q1, q2, q3, q4⟩ := grown hout b2 (.inl rfl) (cat_row hold n1.isRow hr) p1
                exact ⟨env', w', r, q1, q2, q3, q4⟩
              · cases h
            · cases h
          · simp only [cond_true] at h
            obtain ⟨p1, rfl, rfl⟩ := up_some h
            obtain ⟨w', q1, q2, q3⟩ := inplace (Nat.le_of_ble_eq_true hfit) p1
            exact ⟨env, w', _, q1, ⟨L, kc, r0, rfl, rfl⟩, q2, q3⟩
        · simp only at rc
          cases hsz : Nat.beq sz size <;> rw [hsz] at h
          · cases h
          simp only [cond_true] at h
          have hsz := Nat.eq_of_beq_eq_true hsz
          subst hsz
          obtain ⟨s1, s2⟩ := g4 (by omega)
          rw [s1] at rc
          cases hfit : Nat.ble (Nat.add off (Nat.mul (Nat.add len m) sz)) n <;> rw [hfit] at h
          · simp only [cond_false] at h
            cases hGG : (Nat.ble G id && allOne new && Nat.beq el e) <;> rw [hGG] at h
            · cases h
            simp only [cond_true] at h
            obtain ⟨hG, hall, hel⟩ := conj3 hGG
            have hG := Nat.le_of_ble_eq_true hG
            have hel := Nat.eq_of_beq_eq_true hel
            subst hel
            split at h
            · rename_i H0 hkill
              have key : ∃ c'', Cat c'' c off (len * sz) new ∧ H0.put nx (.cells c'' ((len + m) * sz) sz el) = some H' ∧ v = .sl nx 0 (len + m) none ∧ nx' = nx + 1 ∧ (len * sz = 0 ∨ L.base + off + len * sz ≤ arr.size) := by
                cases hre : (Nat.beq off 0 && Nat.beq (Nat.mul len sz) n) <;> rw [hre] at h
                · simp only [cond_false] at h
                  split at h
                  · rename_i old hold
                    split at h
                    · rename_i c'' hr
                      obtain ⟨p1, p2, p3⟩ := rnew_some h
                      obtain ⟨_, b2, _⟩ := getCells_sound g5 hold
                      exact ⟨c'', cat_row hold n1.isRow hr, p1, p2, p3, b2⟩
                    · cases h
                  · cases h
                · simp only [cond_true] at h
                  simp only [Bool.and_eq_true] at hre
                  have e1 := Nat.eq_of_beq_eq_true hre.1
                  have e2 : len * sz = n := Nat.eq_of_beq_eq_true hre.2
                  subst e1
                  split at h
                  · rename_i c'' hr
                    obtain ⟨p1, p2, p3⟩ := rnew_some h
                    refine ⟨c'', ?_, p1, p2, p3, .inr (by omega)⟩
                    have := cat_reuse n1.isRow hr (fun i v hv => (g5 i v hv).1)
                    rw [← e2] at this
                    exact this
                  · cases h
              obtain ⟨c'', hcat, hput, rfl, rfl, hfit2⟩ := key
              rcases Nat.lt_or_ge kc (len + m) with hout | hin
              · obtain ⟨env', w', r, q1, q2, q3, q4⟩ := grown hout hfit2 (.inr ⟨hG, hkill⟩) hcat hput
                exact ⟨env', w', r, q1, q2, q3, q4⟩
              · have hmul : (len + m) * sz ≤ kc * sz := Nat.mul_le_mul_right _ hin
                have hadd : (len + m) * sz = len * sz + m * sz := Nat.add_mul _ _ _
                have hone : ∀ x ∈ newc.toList, x.oneCell' = true := allOne_cells hall n1
                obtain ⟨w', arr', r1, r2, r3, r4, r5, r6, r7, r8, r9⟩ := storeCells_run (P := P) (off := L.base + off + len * sz) newc.toList 0 w arr g1 (by simp only [Array.length_toList]; omega) hone g6
                have hor : ∀ env', Le env env' → OR env' ⟨L.b, L.base + off, kc * sz, sz⟩ (.cells c'' ((len + m) * sz) sz el) (.cells arr' el fr) := by
                  intro env' hle
                  refine ⟨arr', fr, rfl, ?_, fun h => by omega, fun _ => ⟨rfl, ?_⟩, fun i v hv => ?_, fun k hk => g6 k (by omega)⟩
                  · show L.base + off + (len + m) * sz ≤ arr'.size; omega
                  · show L.base + off + kc * sz = arr'.size; omega
                  · have ha := r6 (L.base + off + i)
                    simp only [Nat.add_zero, Array.length_toList] at ha
                    rcases hcat i v hv with ⟨c1, c2⟩ | ⟨c1, c2, c3⟩
                    · obtain ⟨_, x, hx, r⟩ := g5 _ _ c2
                      have : ¬ (L.base + off + len * sz ≤ L.base + off + i ∧ L.base + off + i < L.base + off + len * sz + newc.size) := by omega
                      rw [if_neg this] at ha
                      exact ⟨by omega, x, by rw [ha, Nat.add_assoc]; exact hx, r.ext hle⟩
                    · obtain ⟨x, hx, r⟩ := n1.nth c3
                      have : L.base + off + len * sz ≤ L.base + off + i ∧ L.base + off + i < L.base + off + len * sz + newc.size := by omega
                      rw [if_pos this, show L.base + off + i - (L.base + off + len * sz) = i - len * sz by omega] at ha
                      exact ⟨by omega, x, by rw [ha]; exact hx, r.ext hle⟩
                obtain ⟨env', m1, m2, m3, m4⟩ := SR.move (G := G) (w' := w') hs (L' := ⟨L.b, L.base + off, kc * sz, sz⟩) r0 hG hq rfl hkill hput r3 r4 r2 r7 r8 r9 hor
                refine ⟨env', w', _, append_in h1 h2 h3 h4 n3 hf hin (w' := w') (by simp only [add_none]; exact r1), ⟨_, kc, m1, by simp, by show 0 + kc * sz = kc * sz; omega⟩, m3, m4⟩
            · cases h
          · simp only [cond_true] at h
            obtain ⟨p1, rfl, rfl⟩ := up_some h
            have hfit : off + (len + m) * sz ≤ n := Nat.le_of_ble_eq_true hfit
            have hin : len + m ≤ kc := by
              rcases Nat.lt_or_ge kc (len + m) with q | q
              · have : (kc + 1) * sz ≤ (len + m) * sz := Nat.mul_le_mul_right _ q
                rw [Nat.add_mul] at this
                omega
              · exact q
            obtain ⟨w', q1, q2, q3⟩ := inplace hin p1
            exact ⟨env, w', _, q1, ⟨L, kc, r0, rfl, by show off + kc * L.sz = L.lim; rw [s1]; exact rc⟩, q2, q3⟩
      · cases h
    · cases h
end Go.Ev

namespace Go.Ev
variable {P : Program} {G : Nat} {env : Env} {tm : T AV} {a : Act} {H : Hp} {nx : Nat} {w : World}

theorem setObj_run {b : Nat} {ob o' : Obj} (h : w.heap[b]? = some ob) (hn : ∀ c e f, ob ≠ .cells c e f) : (setObj b o').run P w = .ok () { w with heap := w.heap.setIfInBounds b o' } := by
  cases ob <;> first | exact absurd rfl (hn _ _ _) | simp [setObj, Sem.run, h]

/-- an object that is no row is turned -/
theorem SR.set (hs : SR env H nx w) {id : Nat} {L : Loc} {o o' : AO} {ob : Obj} (he : env id = some L) (hG : G ≤ id) (hq : H.get id = some o) (hl : o.live = true) {H' : Hp} (hp : H.put id o' = some H') (hor : OR env L o' ob) :
    SR env H' nx { w with heap := w.heap.setIfInBounds L.b ob } ∧ Tr G env H nx w env H' nx { w with heap := w.heap.setIfInBounds L.b ob } := by
  have hlt := (hs.bnd id L he).1
  refine hs.turn he hG hq hl hp (fun b hb => ?_) ?_ (by simp) rfl rfl rfl hor
  · simp only [Array.getElem?_setIfInBounds_ne (fun e => hb e.symm)]
  · simp [hlt]

theorem MR.nth {es : List Ent} : ∀ {l : List MapEntry} {j : Nat} {m : MapEntry}, MR env es l → l[j]? = some m → ∃ e, es[j]? = some e ∧ VR env e.key m.key ∧ VR env e.val m.val ∧ e.born = m.born := by
  induction es with
  | nil => rintro l j m rfl h; simp at h
  | cons e es ih =>
    rintro l j m ⟨m', ms, rfl, h1, h2, h3, h4⟩ h
    cases j with
    | zero => simp at h; subst h; exact ⟨e, rfl, h1, h2, h3⟩
    | succ j => simpa using ih h4 (by simpa using h)

theorem updE_sound {q : EqS} {d : TypeDesc} (hq : KeyTy q d) {k v : AV} {kc vc : Value} (hk : VR env k kc) (hv : VR env v vc) : ∀ {es es' : List Ent} {arr : List MapEntry} (i : Nat), MR env es arr → updE q k v es = some es' →
    ∃ j m, Instr.findNow d kc arr i = some (some (i + j, m.val)) ∧ arr[j]? = some m ∧ Instr.sameNow d kc m.key = some true ∧ MR env es' (arr.set j { m with key := kc, val := vc })
  | [], es', arr, i, _, h => by simp [updE] at h
  | e :: es, es', arr, i, hm, h => by
    obtain ⟨m, ms, rfl, mk, mv, mb, mr⟩ := hm
    simp only [updE] at h
    split at h
    · rename_i e1
      cases h
      have sn := sameNow_sound hq e1 hk mk
      exact ⟨0, m, by simp [Instr.findNow, sn], rfl, sn, _, ms, rfl, hk, hv, mb, mr⟩
    · rename_i e1
      have sn := sameNow_sound hq e1 hk mk
      split at h
      · rename_i l' hl
        cases h
        obtain ⟨j, m', f1, f2, f3, f4⟩ := updE_sound hq hk hv (i + 1) mr hl
        exact ⟨j + 1, m', by simp only [Instr.findNow, sn, f1]; congr 3; omega, by simpa using f2, f3, m, _, rfl, mk, mv, mb, f4⟩
      · cases h
    · cases h

theorem delE_sound {q : EqS} {d : TypeDesc} (hq : KeyTy q d) {k : AV} {kc : Value} (hk : VR env k kc) : ∀ {es es' : List Ent} {arr : List MapEntry} (i : Nat), MR env es arr → delE q k es = some es' →
    (Instr.findNow d kc arr i = some none ∧ MR env es' arr) ∨ ∃ j c, j < arr.length ∧ Instr.findNow d kc arr i = some (some (i + j, c)) ∧ MR env es' (arr.eraseIdx j)
  | [], es', arr, i, hm, h => by cases hm; simp [delE] at h; subst h; exact .inl ⟨rfl, rfl⟩
  | e :: es, es', arr, i, hm, h => by
    obtain ⟨m, ms, rfl, mk, mv, mb, mr⟩ := hm
    simp only [delE] at h
    split at h
    · rename_i e1
      cases h
      have sn := sameNow_sound hq e1 hk mk
      exact .inr ⟨0, m.val, by simp, by simp [Instr.findNow, sn], mr⟩
    · rename_i e1
      have sn := sameNow_sound hq e1 hk mk
      split at h
      · rename_i l' hl
        cases h
        rcases delE_sound hq hk (i + 1) mr hl with ⟨f1, f2⟩ | ⟨j, c, f0, f1, f2⟩
        · exact .inl ⟨by simp [Instr.findNow, sn, f1], m, ms, rfl, mk, mv, mb, f2⟩
        · exact .inr ⟨j + 1, c, by simp; omega, by simp only [Instr.findNow, sn, f1]; congr 3; omega, m, _, rfl, mk, mv, mb, f2⟩
      · cases h
    · cases h

theorem sameBits_of {d : TypeDesc} {u v : Value} (h : Instr.sameNow d u v = some true) : Instr.sameBits 10000 v u = true := by
  unfold Instr.sameNow at h
  split at h
  · split at h
    · rename_i e
      subst e
      have h := Option.some.inj h
      simp at h
      simp [Instr.sameBits, h]
    · cases h
  · rename_i x y
    have h := Option.some.inj h
    have h' : x.data.toList = y.data.toList := by
      have : (x.data == y.data) = true := h
      simpa using congrArg Array.toList (eq_of_beq this)
    simp only [Instr.sameBits]
    show (y.data == x.data) = true
    simp [Array.toList_inj.1 h'.symm]
  · have h := Option.some.inj h
    simp at h
    simp [Instr.sameBits, h]
  · cases h

theorem MR.snoc {es : List Ent} {e : Ent} : ∀ {l : List MapEntry} {m : MapEntry}, MR env es l → VR env e.key m.key → VR env e.val m.val → e.born = m.born → MR env (es ++ [e]) (l ++ [m]) := by
  induction es with
  | nil => rintro l m rfl h1 h2 h3; exact ⟨m, [], rfl, h1, h2, h3, rfl⟩
  | cons e' es ih => rintro l m ⟨m', ms, rfl, h1, h2, h3, h4⟩ k1 k2 k3; exact ⟨m', _, rfl, h1, h2, h3, ih h4 k1 k2 k3⟩

theorem modify_toList {α : Type} (xs : Array α) (i : Nat) (f : α → α) (x : α) (h : xs[i]? = some x) : (xs.modify i f).toList = xs.toList.set i (f x) := by
  apply List.ext_getElem?
  intro j
  rw [Array.getElem?_toList, Array.getElem?_modify, List.getElem?_set]
  by_cases e : i = j
  · subst e
    obtain ⟨hi, _⟩ := Array.getElem?_eq_some_iff.1 h
    have hx : xs[i] = x := by simpa [hi] using h
    simp [hi, hx]
  · simp [e]

theorem act_mapupd (hg : GL G env) (ht : TR env tm a.tmps) (hs : SR env H nx w) {t : Nat} {m k x : Operand} {o : Oper} (ho : o.op = .mapUpdate t m k x ∨ o.op = .insert t m k x) {q : EqS} {m' k' x' : CO} (hq : mapKind P t = some q) (hm : opdOf G m = some m') (hk : opdOf G k = some k') (hx : opdOf G x = some x')
    {v : AV} {H' : Hp} {nx' : Nat} (h : heavyA P G (.mapupd q m' k' x') tm H nx = .v v H' nx') : Acts P G a env H nx w o v H' nx' := by
  unfold mapKind at hq
  split at hq
  case h_2 => cases hq
  rename_i kt el hu
  obtain ⟨d, hd, hqd⟩ := keyKind_ty hq
  simp only [heavyA] at h
  split at h
  · rename_i id kv xv em ek ex
    obtain ⟨L, r1, r2⟩ := opd_sound hg ht hm em
    have rk := opd_sound hg ht hk ek
    have rx := opd_sound hg ht hx ex
    split at h
    · rename_i es c hH
      obtain ⟨ob, o1, hL0, arr, rfl, g2⟩ := hs.obj id L _ r1 hH
      have cr := checkKey_run hd hqd false 9999 (a.eval k) w
      have eo : (execOp a.eval o).run P w = ((Instr.mapUpdate t (a.eval m) (a.eval k) (a.eval x)).run P w).andThen fun _ w' => .ok .skip w' := by
        rcases ho with ho | ho <;> simp [execOp, ho]
      have fin : ∀ {o' : AO} {ob' : Obj}, G ≤ id → H.put id o' = some H' → OR env L o' ob' → (Instr.mapUpdate t (a.eval m) (a.eval k) (a.eval x)).run P w = .ok () { w with heap := w.heap.setIfInBounds L.b ob' } → Acts P G a env H nx w o undefA H' nx := by
        intro o' ob' hG hp hor hrun
        obtain ⟨s1, s2⟩ := hs.set (G := G) r1 hG hH rfl hp hor
        exact ⟨env, _, undef, .inr ⟨by rw [eo, hrun]; rfl, rfl⟩, undef_VR env, s1, s2⟩
      cases hG : Nat.ble G id <;> rw [hG] at h
      · cases h
      simp only [cond_true] at h
      have hG := Nat.le_of_ble_eq_true hG
      split at h
      · split at h
        · rename_i es' hes
          obtain ⟨p1, rfl, rfl⟩ := up_some h
          obtain ⟨j, me, f1, f2, f3, f4⟩ := updE_sound hqd rk rx 0 g2 hes
          have f2' : arr[j]? = some me := by rw [← Array.getElem?_toList]; exact f2
          rw [Nat.zero_add] at f1
          refine fin (ob' := .map (arr.modify j fun e => { e with key := a.eval k, val := a.eval x }) c) hG p1 ⟨hL0, _, rfl, by rw [modify_toList _ _ _ _ f2']; exact f4⟩ ?_
          have fk : (Instr.findKey kt (a.eval k) arr.toList).run P w = .ok (some (j, me.val)) w := by
            simp only [Instr.findKey, Sem.run_bind, underlying_run hd, Result.andThen_ok, f1, Sem.run_pure]
          have ks : (Instr.keyThatStays me.key (a.eval k)).run P w = .ok (a.eval k) w := by
            simp [Instr.keyThatStays, sameBits_of f3]
          simp only [Instr.mapUpdate, Sem.run_bind, underlying_run hu, Result.andThen_ok, r2, getObj_map o1, cr, fk, f2', Option.map_some, Option.getD_some, ks, setObj_run o1 (fun _ _ _ h => by cases h)]
        · cases h
      · rename_i hf
        obtain ⟨p1, rfl, rfl⟩ := up_some h
        obtain ⟨f1, _⟩ := findE_sound hqd rk 0 g2 hf
        have fk : (Instr.findKey kt (a.eval k) arr.toList).run P w = .ok none w := by
          simp only [Instr.findKey, Sem.run_bind, underlying_run hd, Result.andThen_ok, f1 rfl, Sem.run_pure]
        refine fin (ob' := .map (arr.push { key := a.eval k, val := a.eval x, born := c }) (c + 1)) hG p1 ⟨hL0, _, rfl, ?_⟩ ?_
        · rw [Array.toList_push]
          exact g2.snoc rk rx rfl
        · simp only [Instr.mapUpdate, Sem.run_bind, underlying_run hu, Result.andThen_ok, r2, getObj_map o1, cr, fk, setObj_run o1 (fun _ _ _ h => by cases h)]
      · cases h
    · cases h
  · cases h

theorem act_delete (hg : GL G env) (ht : TR env tm a.tmps) (hs : SR env H nx w) {c : Call} {t u : Nat} {q : EqS} {m' k' : CO} {o : Oper} (ho : o.op = .call c) (hb : c.callee = .builtin .delete) (hx : opdsOf G c.args.toList = some [m', k']) (hts : c.argTypes.toList = [t, u]) (hq : mapKind P t = some q)
    {v : AV} {H' : Hp} {nx' : Nat} (h : heavyA P G (.delete q m' k') tm H nx = .v v H' nx') : Acts P G a env H nx w o v H' nx' := by
  unfold mapKind at hq
  split at hq
  case h_2 => cases hq
  rename_i kt el hu
  obtain ⟨d, hd, hqd⟩ := keyKind_ty hq
  obtain ⟨m, k, hl, hm, hk⟩ := opds2 hx
  obtain ⟨cs, hex⟩ := exec_b2 (a := a) ho hb hl hts
  have eo : (execOp a.eval o).run P w = ((Builtin.delete_ [t, u].toArray o.type #[a.eval m, a.eval k]).run P w).andThen fun c w' => .ok (.value c) w' := by
    rw [hex]
    show (do pure (Next.value (← Builtin.delete_ [t, u].toArray o.type #[a.eval m, a.eval k])) : Sem Next).run P w = _
    simp
  have e0 : ([t, u].toArray : Array TypeId)[0]? = some t := rfl
  have e1 : ∀ x y : Value, (#[x, y] : Array Value)[0]? = some x := fun _ _ => rfl
  have e2 : ∀ x y : Value, (#[x, y] : Array Value)[1]? = some y := fun _ _ => rfl
  have RM : ∀ {v}, opd tm m' = some v → VR env v (a.eval m) := fun e => opd_sound hg ht hm e
  have RK : ∀ {v}, opd tm k' = some v → VR env v (a.eval k) := fun e => opd_sound hg ht hk e
  generalize a.eval m = mv at *
  generalize a.eval k = kv at *
  simp only [heavyA] at h
  split at h
  · rename_i kk em ek
    cases h
    have rm := RM em
    simp only [VR] at rm
    subst rm
    have cr := checkKey_run hd hqd true 9999 kv w
    refine ⟨env, w, .tuple #[], .inl ?_, ⟨_, rfl, rfl⟩, hs, Tr.refl _ _ _ _ _⟩
    rw [eo]
    simp only [Builtin.delete_, e0, e1, e2, Sem.run_bind, underlying_run hu, Result.andThen_ok, cr, Sem.run_pure]
  · rename_i id kk em ek
    obtain ⟨L, r1, r2⟩ := RM em
    subst r2
    have rk := RK ek
    split at h
    · rename_i es c hH
      obtain ⟨ob, o1, hL0, arr, rfl, g2⟩ := hs.obj id L _ r1 hH
      have cr := checkKey_run hd hqd arr.isEmpty 9999 kv w
      cases hG : Nat.ble G id <;> rw [hG] at h
      · cases h
      simp only [cond_true] at h
      have hG := Nat.le_of_ble_eq_true hG
      split at h
      · rename_i es' hes
        obtain ⟨p1, rfl, rfl⟩ := up_some h
        have fin : ∀ {ob' : Obj}, OR env L (.map es' c) ob' → (Builtin.delete_ [t, u].toArray o.type #[.map (some L.b), kv]).run P w = .ok (.tuple #[]) { w with heap := w.heap.setIfInBounds L.b ob' } → Acts P G a env H nx' w o undefA H' nx' := by
          intro ob' hor hrun
          obtain ⟨s1, s2⟩ := hs.set (G := G) r1 hG hH rfl p1 hor
          exact ⟨env, _, .tuple #[], .inl (by rw [eo, hrun]; rfl), ⟨_, rfl, rfl⟩, s1, s2⟩
        rcases delE_sound hqd rk 0 g2 hes with ⟨f1, f2⟩ | ⟨j, cc, f0, f1, f2⟩
        · refine fin (ob' := .map arr c) ⟨hL0, arr, rfl, f2⟩ ?_
          have fk : (Instr.findKey kt kv arr.toList).run P w = .ok none w := by
            simp only [Instr.findKey, Sem.run_bind, underlying_run hd, Result.andThen_ok, f1, Sem.run_pure]
          simp only [Builtin.delete_, e0, e1, e2, Sem.run_bind, underlying_run hu, Result.andThen_ok, getObj_map o1, cr, fk, setObj_run o1 (fun _ _ _ h => by cases h), Sem.run_pure]
        · rw [Nat.zero_add] at f1
          simp only [Array.length_toList] at f0
          have he : (arr.eraseIdxIfInBounds j).toList = arr.toList.eraseIdx j := by simp [Array.eraseIdxIfInBounds, f0]
          refine fin (ob' := .map (arr.eraseIdxIfInBounds j) c) ⟨hL0, _, rfl, by rw [he]; exact f2⟩ ?_
          have fk : (Instr.findKey kt kv arr.toList).run P w = .ok (some (j, cc)) w := by
            simp only [Instr.findKey, Sem.run_bind, underlying_run hd, Result.andThen_ok, f1, Sem.run_pure]
          simp only [Builtin.delete_, e0, e1, e2, Sem.run_bind, underlying_run hu, Result.andThen_ok, getObj_map o1, cr, fk, setObj_run o1 (fun _ _ _ h => by cases h), Sem.run_pure]
      · cases h
    · cases h
  · cases h

theorem act_copy (hg : GL G env) (ht : TR env tm a.tmps) (hs : SR env H nx w) {c : Call} {t u e s : Nat} {d' x' : CO} {o : Oper} (ho : o.op = .call c) (hb : c.callee = .builtin .copy) (hx : opdsOf G c.args.toList = some [d', x']) (hts : c.argTypes.toList = [t, u]) (hq : tySlice P t = some (e, s))
    {v : AV} {H' : Hp} {nx' : Nat} (h : heavyA P G (.copy s d' x') tm H nx = .v v H' nx') : Acts P G a env H nx w o v H' nx' := by
  obtain ⟨h1, h2⟩ := slice_info hq
  obtain ⟨y, x, hl, hy, hx⟩ := opds2 hx
  obtain ⟨cs, hex⟩ := exec_b2 (a := a) ho hb hl hts
  have eo : (execOp a.eval o).run P w = ((Builtin.copy_ [t, u].toArray o.type #[a.eval y, a.eval x]).run P w).andThen fun c w' => .ok (.value c) w' := by
    rw [hex]
    show (do pure (Next.value (← Builtin.copy_ [t, u].toArray o.type #[a.eval y, a.eval x])) : Sem Next).run P w = _
    simp
  have e0 : ([t, u].toArray : Array TypeId)[0]? = some t := rfl
  have e1 : ∀ x y : Value, (#[x, y] : Array Value)[0]? = some x := fun _ _ => rfl
  have e2 : ∀ x y : Value, (#[x, y] : Array Value)[1]? = some y := fun _ _ => rfl
  have RY : ∀ {v}, opd tm d' = some v → VR env v (a.eval y) := fun e => opd_sound hg ht hy e
  have RX : ∀ {v}, opd tm x' = some v → VR env v (a.eval x) := fun e => opd_sound hg ht hx e
  generalize a.eval y = yc at *
  generalize a.eval x = xc at *
  simp only [heavyA] at h
  split at h
  · rename_i dv xv ed ex
    have rd := RY ed
    have rx := RX ex
    split at h
    · rename_i l m hsrc
      obtain ⟨newc, n1, n2, n3, n4⟩ := srcA_sound (P := P) hs hsrc rx
      split at h
      · cases h
        simp only [VR] at rd
        subst rd
        refine ⟨env, w, goInt 0, .inl ?_, rfl, hs, Tr.refl _ _ _ _ _⟩
        have hf := n4 0 (Nat.zero_le _)
        rw [eo]
        simp only [Builtin.copy_, e0, e1, e2, Sem.run_bind, underlying_run h1, Result.andThen_ok, n3, sizeOf_run h2]
        have hm0 : Nat.min m 0 = 0 := Nat.min_zero _
        simp only [hm0, hf, Result.andThen_ok, Sem.run_pure]
        rfl
      · cases h
        obtain ⟨ad, k, rfl⟩ := rd
        refine ⟨env, w, goInt 0, .inl ?_, rfl, hs, Tr.refl _ _ _ _ _⟩
        have hf := n4 0 (Nat.zero_le _)
        have hm0 : Nat.min m 0 = 0 := Nat.min_zero _
        rw [eo]
        simp only [Builtin.copy_, e0, e1, e2, Sem.run_bind, underlying_run h1, Result.andThen_ok, n3, sizeOf_run h2, hm0, hf]
        simp only [Array.toList_extract, Nat.zero_mul]
        simp [storeCells]
      · rename_i id off len cap
        obtain ⟨L, k, r0, rfl, _⟩ := rd
        split at h
        · rename_i l' hl'
          obtain ⟨p1, rfl, rfl⟩ := up_some h
          obtain ⟨_, b2⟩ := n1.part0 hl'
          have hf := n4 (Nat.min m len) (Nat.min_le_left _ _)
          have hxs : (newc.extract 0 (Nat.min m len * s)).toList = newc.toList.take (Nat.min m len * s) := by simp
          obtain ⟨w', q1, q2, q3⟩ := wrAt_sound (P := P) hs r0 p1 b2
          refine ⟨env, w', goInt (Nat.min m len), .inl ?_, rfl, q2, q3⟩
          rw [eo]
          simp only [Builtin.copy_, e0, e1, e2, Sem.run_bind, underlying_run h1, Result.andThen_ok, n3, sizeOf_run h2, hf, hxs]
          have q1' : (storeCells ⟨L.b, L.base + off, none⟩ (newc.toList.take (Nat.min m len * s))).run P w = .ok () w' := q1
          simp only [q1', Result.andThen_ok, Sem.run_pure]
        · cases h
      · cases h
    · cases h
  · cases h
end Go.Ev

namespace Go.Ev
variable {P : Program} {G : Nat} {env : Env} {tm : T AV} {a : Act} {H : Hp} {nx : Nat} {w : World}

theorem mm_sound {mx : Bool} : ∀ {l : AV} {x v : AV} {c : Value} {xs : List Value}, mmA mx x l = some v → VR env x c → VL env l xs → ∃ r, (xs.foldlM (if mx then Builtin.max2 else Builtin.min2) c).run P w = .ok r w ∧ VR env v r := by
  intro l
  induction l with
  | nil =>
    rintro x v c xs h hx rfl
    have : v = x := by unfold mmA at h; simpa [eq_comm] using h
    subst this
    exact ⟨c, rfl, hx⟩
  | cons hd tl _ ih =>
    rintro x v c xs h hx ⟨y, ys, rfl, hy, hys⟩
    unfold mmA at h
    split at h
    · cases ‹AV.cons hd tl = AV.nil›
    · rename_i k n j m l' heq
      cases heq
      simp only [VR] at hx hy
      subst hx; subst hy
      have step : ((if mx then Builtin.max2 else Builtin.min2) (.int k n) (.int j m)).run P w = .ok (.int k (bif (bif mx then !(ile m n) else !(ile n m)) then m else n)) w := by
        cases mx
        · simp only [Bool.false_eq_true, if_false, Builtin.min2, Sem.run_pure, cond_false, ile_eq, cond_eq_ite]
          congr 2
          by_cases q : n ≤ m
          · have : ¬ m < n := by omega
            simp [q, this]
          · have : m < n := by omega
            simp [q, this]
        · simp only [if_true, Builtin.max2, Sem.run_pure, cond_true, ile_eq, cond_eq_ite]
          congr 2
          by_cases q : m ≤ n
          · have : ¬ n < m := by omega
            simp [q, this]
          · have : n < m := by omega
            simp [q, this]
      obtain ⟨r, r1, r2⟩ := ih h (c := .int k (bif (bif mx then !(ile m n) else !(ile n m)) then m else n)) rfl hys
      exact ⟨r, by rw [List.foldlM_cons, Sem.run_bind, step]; exact r1, r2⟩
    · cases h
  | _ => intro x v c xs _ _ h; exact h.elim

theorem act_minmax (hg : GL G env) (ht : TR env tm a.tmps) (hs : SR env H nx w) {c : Call} {mx : Bool} {xs : List CO} {o : Oper} (ho : o.op = .call c) (hb : c.callee = .builtin (if mx then .max else .min)) (hx : opdsOf G c.args.toList = some xs)
    {v : AV} {H' : Hp} {nx' : Nat} (h : heavyA P G (.minmax mx xs) tm H nx = .v v H' nx') : Acts P G a env H nx w o v H' nx' := by
  simp only [heavyA] at h
  split at h
  · rename_i x l hl
    obtain ⟨y, ys, e1, r1, r2⟩ := opds_sound hg ht hx hl
    cases hu : mmA mx x l with
    | none => rw [hu] at h; cases h
    | some u =>
      rw [hu] at h
      cases h
      obtain ⟨r, q1, q2⟩ := mm_sound (P := P) (w := w) hu r1 r2
      refine ⟨env, w, r, .inl ?_, q2, hs, Tr.refl _ _ _ _ _⟩
      rw [exec_builtin ho hb]
      have e2 : (c.args.map a.eval).toList = y :: ys := by rw [Array.toList_map]; exact e1
      cases mx with
      | true =>
        show (do pure (Next.value (← Builtin.max_ c.argTypes o.type (c.args.map a.eval))) : Sem Next).run P w = _
        simp only [Builtin.max_, e2, Sem.run_bind]
        rw [if_pos rfl] at q1
        simp only [q1, Result.andThen_ok, Sem.run_pure]
      | false =>
        show (do pure (Next.value (← Builtin.min_ c.argTypes o.type (c.args.map a.eval))) : Sem Next).run P w = _
        simp only [Builtin.min_, e2, Sem.run_bind]
        rw [if_neg (by simp)] at q1
        simp only [q1, Result.andThen_ok, Sem.run_pure]
  · cases h

theorem loadBytes_run {b : Nat} {arr : Array Value} {e : Nat} {fr : Nat × Nat} (h : w.heap[b]? = some (.cells arr e fr)) : ∀ (ns : List Nat) (off : Nat) (acc : ByteArray), (∀ n ∈ ns, n < 256) → off + ns.length ≤ arr.size → ((arr.toList.drop off).take ns.length = (ns.map fun n : Nat => (n : Int)).map (Value.int .u8)) →
    ∃ s, (loadBytes ⟨b, off, none⟩ acc ns.length).run P w = .ok s w ∧ s.data.toList.map (·.toNat) = acc.data.toList.map (·.toNat) ++ ns
  | [], off, acc, _, _, _ => ⟨acc, rfl, by simp⟩
  | n :: ns, off, acc, hn, hl, he => by
    simp only [List.length_cons] at hl he
    have hlt : off < arr.size := by omega
    rw [List.drop_eq_getElem_cons (by simpa using hlt)] at he
    simp only [List.take_succ_cons, List.map_cons, List.cons.injEq] at he
    have hx : arr[off]? = some (.int .u8 (n : Int)) := by
      have := he.1
      simp only [Array.getElem_toList] at this
      simp [hlt, this]
    obtain ⟨s, s1, s2⟩ := loadBytes_run h ns (off + 1) (acc.push (UInt8.ofNat n)) (fun k hk => hn k (by simp [hk])) (by omega) he.2
    refine ⟨s, ?_, ?_⟩
    · simp only [List.length_cons, loadBytes, Sem.run_bind, load_run h hx, Result.andThen_ok, add_none, Int.toNat_natCast]
      exact s1
    · rw [s2]
      have hd : (acc.push (UInt8.ofNat n)).data.toList = acc.data.toList ++ [UInt8.ofNat n] := by simp [ByteArray.push]
      have hm : n % 256 = n := Nat.mod_eq_of_lt (hn n (by simp))
      rw [hd]
      simp [hm]

theorem us_nil {pt : Nat} {ats : Array TypeId} (hats : ats[0]? = some pt) (ty : TypeId) (k : IntKind) : (Builtin.unsafeString_ ats ty #[.pointer none, .int k 0]).run P w = .ok (.string .empty) w := by
  have : Builtin.unsafeString_ ats ty #[.pointer none, .int k 0] = (do
    let n ← asInt (.int k 0)
    let some pt := ats[0]? | stuck "unsafe.String: no argument types"
    if n < 0 then runtimePanic (.error "unsafe.String: len out of range")
    if n > IntKind.i64.max then unsupported (.unsafePointer "String: a length above the largest int")
    if n = 0 then pure (.string .empty)
    else runtimePanic (.error "unsafe.String: ptr is nil and len is not zero")) := rfl
  rw [this]
  simp [asInt, asIntOf, hats, IntKind.max, IntKind.signed, IntKind.bits]

theorem us_some {pt e n b off : Nat} {ats : Array TypeId} (hats : ats[0]? = some pt) (hp : P.underlying pt = some (.pointer e)) (ty : TypeId) (k : IntKind) (hn : n ≤ 200000) (h0 : 0 < n) {s : ByteArray} (hv : (variablesAt ⟨b, off, none⟩ e n).run P w = .ok true w) (hl : (loadBytes ⟨b, off, none⟩ .empty n).run P w = .ok s w) :
    (Builtin.unsafeString_ ats ty #[.pointer (some ⟨b, off, none⟩), .int k (n : Int)]).run P w = .ok (.string s) (w.freeze ⟨b, off, none⟩ n) := by
  have : Builtin.unsafeString_ ats ty #[.pointer (some ⟨b, off, none⟩), .int k (n : Int)] = (do
    let n ← asInt (.int k (n : Int))
    let some pt := ats[0]? | stuck "unsafe.String: no argument types"
    if n < 0 then runtimePanic (.error "unsafe.String: len out of range")
    if n > IntKind.i64.max then unsupported (.unsafePointer "String: a length above the largest int")
    if n = 0 then pure (.string .empty)
    else if ← variablesAt ⟨b, off, none⟩ (← elemOf pt) n.toNat then do
      let s ← loadBytes ⟨b, off, none⟩ .empty n.toNat
      freeze ⟨b, off, none⟩ n.toNat
      pure (.string s)
    else unsupported (.unsafePointer "String: not so many bytes at ptr")) := rfl
  rw [this]
  have c1 : ¬ ((n : Int) < 0) := by omega
  have c2 : ¬ ((n : Int) > IntKind.i64.max) := by simp [IntKind.max, IntKind.signed, IntKind.bits]; omega
  have c3 : ¬ ((n : Int) = 0) := by omega
  have c4 : ¬ (IntKind.i64.max < (n : Int)) := c2
  simp [asInt, asIntOf, hats, c1, c4, c3, elemOf, underlying_run hp, hv, hl]
  rw [if_neg (by omega), if_neg (by omega)]

theorem act_ustr (hg : GL G env) (ht : TR env tm a.tmps) (hs : SR env H nx w) {c : Call} {t e : Nat} {ts : List Nat} {x' n' : CO} {o : Oper} (ho : o.op = .call c) (hb : c.callee = .builtin .unsafeString) (hx : opdsOf G c.args.toList = some [x', n']) (hts : c.argTypes.toList = t :: ts) (hu : P.underlying t = some (.pointer e)) (hsz : tySize P e = some 1)
    {v : AV} {H' : Hp} {nx' : Nat} (h : heavyA P G (.ustr e x' n') tm H nx = .v v H' nx') : Acts P G a env H nx w o v H' nx' := by
  obtain ⟨x, n, hl, hx, hn⟩ := opds2 hx
  obtain ⟨cs, hex⟩ := exec_b2 (a := a) ho hb hl hts
  have hats : ((t :: ts).toArray : Array TypeId)[0]? = some t := by simp
  have eo : (execOp a.eval o).run P w = ((Builtin.unsafeString_ (t :: ts).toArray o.type #[a.eval x, a.eval n]).run P w).andThen fun c w' => .ok (.value c) w' := by
    rw [hex]
    show (do pure (Next.value (← Builtin.unsafeString_ (t :: ts).toArray o.type #[a.eval x, a.eval n])) : Sem Next).run P w = _
    simp
  simp only [heavyA] at h
  split at h
  · rename_i e1 e2
    cases h
    have rx := opd_sound hg ht hx e1
    simp only [VR] at rx
    obtain ⟨k, rn⟩ := nat_opd hg ht hn e2
    refine ⟨env, w, .string .empty, .inl ?_, ⟨_, rfl, rfl⟩, hs, Tr.refl _ _ _ _ _⟩
    rw [eo, rx, rn]
    have := us_nil (P := P) (w := w) hats o.type k
    rw [show ((0 : Nat) : Int) = 0 from rfl, this]
    rfl
  · rename_i id off m e1 e2
    obtain ⟨L, r0, rx⟩ := opd_sound hg ht hx e1
    obtain ⟨k, rn⟩ := nat_opd hg ht hn e2
    split at h
    · rename_i cc nn sz el hq
      split at h
      · rename_i l hl
        split at h
        · rename_i ns H1 hns hput
          cases hbb : (Nat.ble G id && Nat.beq el e && Nat.ble m 100000) <;> rw [hbb] at h <;> cases h
          obtain ⟨b1, b2, b3⟩ := conj3 hbb
          have b2 := Nat.eq_of_beq_eq_true b2
          subst b2
          obtain ⟨arr, fr, g1, g2, g3, g4, g5, g6⟩ := hs.cells r0 hq
          obtain ⟨c1, c2, c3⟩ := getCells_sound g5 hl
          have c2 : L.base + off + (m + 1) ≤ arr.size := by omega
          obtain ⟨d1, d2⟩ := natsA_sound hns c3
          have hlen : ns.length = m + 1 := by
            have := congrArg List.length d1
            simp at this
            omega
          obtain ⟨s, s1, s2⟩ := loadBytes_run (P := P) g1 ns (L.base + off) .empty d2 (by omega) (by rw [hlen]; exact d1)
          rw [hlen] at s1
          have va := variablesAt_self (P := P) (w := w) (n := m + 1) (off := L.base + off) g1 hsz (by omega) (Nat.mod_one _)
          have us := us_some (P := P) (w := w) (n := m + 1) hats hu o.type k (by have := Nat.le_of_ble_eq_true b3; omega) (by omega) va s1
          refine ⟨env, w.freeze ⟨L.b, L.base + off, none⟩ (m + 1), .string s, .inl ?_, ⟨s, rfl, by simpa using s2⟩, ?_⟩
          · rw [eo, rx, rn, us]; rfl
          · have hm : ¬ (m + 1 = 0) := by omega
            have hfz : (w.freeze ⟨L.b, L.base + off, none⟩ (m + 1)).heap = w.heap.modify L.b (fun
              | .cells c elem (lo, hi) => .cells c elem (if lo == hi then (L.base + off, L.base + off + (m + 1)) else (min lo (L.base + off), max hi (L.base + off + (m + 1))))
              | o => o) := by
              unfold World.freeze
              rw [if_neg hm]
              rfl
            have hlt := (hs.bnd id L r0).1
            obtain ⟨ob, hob⟩ : ∃ ob, (w.freeze ⟨L.b, L.base + off, none⟩ (m + 1)).heap[L.b]? = some ob := by
              rw [hfz, Array.getElem?_modify, if_pos rfl, g1]; exact ⟨_, rfl⟩
            refine hs.turn (o' := .dead) r0 (Nat.le_of_ble_eq_true b1) hq rfl hput (fun b hb => ?_) hob ?_ ?_ ?_ ?_ trivial
            · rw [hfz, Array.getElem?_modify]
              have : ¬ L.b = b := fun e => hb e.symm
              simp [this]
            · rw [hfz]; simp
            · unfold World.freeze; rw [if_neg hm]
            · unfold World.freeze; rw [if_neg hm]
            · unfold World.freeze; rw [if_neg hm]
        · cases h
      · cases h
    · cases h
  · cases h
end Go.Ev

namespace Go.Ev
variable {P : Program} {G : Nat} {env : Env} {tm : T AV} {a : Act} {H : Hp} {nx : Nat} {w : World}

theorem act_newObj (hs : SR env H nx w) {o : Oper} {ob : Obj} {ao : AO} {H' : Hp} (hp : H.put nx ao = some H') (hor : ∀ env', Le env env' → OR env' ⟨w.heap.size, 0, 0, 0⟩ ao ob)
    (hrun : (execOp a.eval o).run P w = .ok (.value (.pointer (some ⟨w.heap.size, 0, none⟩))) { w with heap := w.heap.push ob }) : Acts P G a env H nx w o (.ptr nx 0) H' (nx + 1) := by
  obtain ⟨env', q1, q2, q3, _⟩ := SR.new (G := G) (w' := { w with heap := w.heap.push ob }) hs ⟨w.heap.size, 0, 0, 0⟩ rfl hp rfl rfl rfl rfl (fun env' h _ => hor env' h)
  exact ⟨env', _, _, .inl hrun, ⟨_, q1, rfl⟩, q2, q3⟩

theorem act_range (hg : GL G env) (ht : TR env tm a.tmps) (hs : SR env H nx w) {t : Nat} {x : Operand} {b : Bool} {x' : CO} {o : Oper} (ho : o.op = .range t x) (hx : opdOf G x = some x') (hu : (b = true ∧ P.underlying t = some .string) ∨ (b = false ∧ ∃ k e, P.underlying t = some (.map k e)))
    {v : AV} {H' : Hp} {nx' : Nat} (h : heavyA P G (.range b x') tm H nx = .v v H' nx') : Acts P G a env H nx w o v H' nx' := by
  rcases hu with ⟨rfl, hu⟩ | ⟨rfl, k, e, hu⟩
  · simp only [heavyA] at h
    split at h
    · rename_i l e1
      obtain ⟨s, r1, r2⟩ := opd_sound hg ht hx e1
      obtain ⟨p1, rfl, rfl⟩ := rnew_some h
      refine act_newObj (ob := .stringIter s 0) hs p1 (fun env' _ => ⟨rfl, s, rfl, r2⟩) ?_
      simp [execOp, ho, Instr.range, underlying_run hu, r1]
    · cases h
  · simp only [heavyA] at h
    split at h
    · rename_i e1
      have r := opd_sound hg ht hx e1
      simp only [VR] at r
      obtain ⟨p1, rfl, rfl⟩ := rnew_some h
      refine act_newObj (ob := .mapIter none 0 #[] 0) hs p1 (fun env' _ => ⟨rfl, none, rfl, rfl⟩) ?_
      simp [execOp, ho, Instr.range, underlying_run hu, r]
    · rename_i id e1
      obtain ⟨L, r0, r1⟩ := opd_sound hg ht hx e1
      split at h
      · rename_i es c hq
        obtain ⟨arr, g1, g2⟩ := hs.map r0 hq
        obtain ⟨p1, rfl, rfl⟩ := rnew_some h
        refine act_newObj (ob := .mapIter (some L.b) c #[] c) hs p1 (fun env' hle => ⟨rfl, some L.b, rfl, L, hle _ _ r0, rfl⟩) ?_
        simp [execOp, ho, Instr.range, underlying_run hu, r1, getObj_map g1]
      · cases h
    · cases h

theorem getObj_run {b : Nat} {ob : Obj} (h : w.heap[b]? = some ob) (hn : ∀ c e f, ob ≠ .cells c e f) : (getObj b).run P w = .ok ob w := by
  cases ob <;> first | exact absurd rfl (hn _ _ _) | simp [getObj, Sem.run, h]

theorem over_VR (env : Env) : VR env (.tup (.cons (.bool false) .nil)) (.tuple #[.bool false]) := ⟨_, rfl, _, [], rfl, rfl, rfl⟩

theorem MR.filter {f : Nat → Bool} : ∀ {es : List Ent} {l : List MapEntry}, MR env es l → MR env (es.filter fun e => f e.born) (l.filter fun e => f e.born)
  | [], _, rfl => rfl
  | e :: es, _, ⟨m, ms, rfl, h1, h2, h3, h4⟩ => by
    have ih := MR.filter (f := f) h4
    by_cases hf : f e.born = true
    · have hf' : f m.born = true := by rw [← h3]; exact hf
      simp only [List.filter_cons, hf, hf', if_true]
      exact ⟨m, _, rfl, h1, h2, h3, ih⟩
    · have hf' : ¬ f m.born = true := by rw [← h3]; exact hf
      simp only [List.filter_cons, hf, hf', Bool.false_eq_true, if_false]
      exact ih

theorem MR.all {f : Nat → Bool} : ∀ {es : List Ent} {l : List MapEntry}, MR env es l → (es.all fun e => f e.born) = (l.all fun e => f e.born)
  | [], _, rfl => rfl
  | e :: es, _, ⟨m, ms, rfl, _, _, h3, h4⟩ => by
    simp only [List.all_cons, MR.all (f := f) h4, h3]

theorem choose_one {n : Nat} (h : n ≤ 1) : (choose (.mapNext n)).run P w = .ok 0 w := by
  simp [choose, Sem.run, Question.forced, h]

theorem act_next (hg : GL G env) (ht : TR env tm a.tmps) (hs : SR env H nx w) {x : Operand} {b : Bool} {x' : CO} {o : Oper} (ho : o.op = .next x b) (hx : opdOf G x = some x')
    {v : AV} {H' : Hp} {nx' : Nat} (h : heavyA P G (.next b x') tm H nx = .v v H' nx') : Acts P G a env H nx w o v H' nx' := by
  have eo : (execOp a.eval o).run P w = ((Instr.next (a.eval x) b o.type).run P w).andThen fun c w' => .ok (.value c) w' := by simp [execOp, ho]
  have RX : ∀ {v}, opd tm x' = some v → VR env v (a.eval x) := fun e => opd_sound hg ht hx e
  generalize a.eval x = xv at *
  cases b with
  | true =>
    simp only [heavyA] at h
    split at h
    · rename_i id e1
      obtain ⟨L, r0, rfl⟩ := RX e1
      split at h
      · rename_i l pos hq
        obtain ⟨ob, o1, hL0, s, rfl, hsl⟩ := hs.obj id L _ r0 hq
        rw [hL0] at eo
        have go := getObj_run (P := P) o1 (fun _ _ _ h => by cases h)
        have hlen := str_len hsl
        split at h
        · rename_i hpos
          cases h
          have hge : ¬ pos < s.size := by
            have := List.getElem?_eq_none_iff.1 hpos
            omega
          refine ⟨env, w, _, .inl ?_, over_VR env, hs, Tr.refl _ _ _ _ _⟩
          rw [eo]
          simp only [Instr.next, Nat.add_zero, Sem.run_bind, go, Result.andThen_ok, hge, if_false, Sem.run_pure]
        · rename_i c hpos
          cases hb : (Nat.blt c 128 && Nat.ble G id) <;> rw [hb] at h
          · cases h
          simp only [cond_true] at h
          simp only [Bool.and_eq_true] at hb
          obtain ⟨p1, rfl, rfl⟩ := up_some h
          have hc : c < 128 := by simpa using hb.1
          have hlt : pos < s.size := by
            obtain ⟨q, _⟩ := List.getElem?_eq_some_iff.1 hpos
            omega
          have hdec : Utf8.decode s pos = (c, 1) := by
            subst hsl
            rw [List.getElem?_map, Option.map_eq_some_iff] at hpos
            obtain ⟨u, hu1, hu2⟩ := hpos
            have hg : (s.get! (pos + 0)).toNat = c := by
              have : s.data[pos]? = some u := by simpa using hu1
              rw [Nat.add_zero]
              show (s.data[pos]!).toNat = c
              rw [getElem!_def, this]
              exact hu2
            unfold Utf8.decode
            simp only [hg]
            rw [if_pos hc]
          obtain ⟨s1, s2⟩ := hs.set (G := G) (ob := .stringIter s (pos + 1)) r0 (Nat.le_of_ble_eq_true hb.2) hq rfl p1 ⟨hL0, s, rfl, hsl⟩
          refine ⟨env, _, .tuple #[.bool true, goInt pos, .int .i32 c], .inl ?_, ⟨_, rfl, _, _, rfl, rfl, _, _, rfl, rfl, _, _, rfl, rfl, rfl⟩, s1, s2⟩
          rw [eo]
          simp only [Instr.next, Nat.add_zero, Sem.run_bind, go, Result.andThen_ok, hlt, if_true, hdec, setObj_run o1 (fun _ _ _ h => by cases h), Sem.run_pure]
      · cases h
    · cases h
  | false =>
    simp only [heavyA] at h
    split at h
    · rename_i id e1
      obtain ⟨L, r0, rfl⟩ := RX e1
      split at h
      · rename_i since seen last hq
        obtain ⟨ob, o1, hL0, m', rfl, rfl⟩ := hs.obj id L _ r0 hq
        rw [hL0] at eo
        have go := getObj_run (P := P) o1 (fun _ _ _ h => by cases h)
        cases h
        refine ⟨env, w, _, .inl ?_, over_VR env, hs, Tr.refl _ _ _ _ _⟩
        rw [eo]
        simp only [Instr.next, Nat.add_zero, Sem.run_bind, go, Result.andThen_ok, Sem.run_pure]
      · rename_i mid since seen last hq
        obtain ⟨ob, o1, hL0, m', rfl, K, hK, rfl⟩ := hs.obj id L _ r0 hq
        rw [hL0] at eo
        have go := getObj_run (P := P) o1 (fun _ _ _ h => by cases h)
        split at h
        · rename_i es clock hqm
          obtain ⟨arr, g1, g2⟩ := hs.map hK hqm
          have gm := getObj_map (P := P) g1
          cases hbad : (!seen.isEmpty && !es.isEmpty && es.all (fun e => Nat.ble last e.born)) <;> rw [hbad] at h
          case true => cases h
          simp only [cond_false] at h
          have hbad' : (!(seen.toArray).isEmpty && !arr.isEmpty && arr.all (fun e => decide (last ≤ e.born))) = false := by
            have e1 : (seen.toArray).isEmpty = seen.isEmpty := by simp
            have e2 : arr.isEmpty = es.isEmpty := by
              have h1 := g2.len
              rw [← Array.isEmpty_toList]
              cases es <;> cases h2 : arr.toList <;> rw [h2] at h1 <;> simp_all
            have e3 : (arr.all (fun e => decide (last ≤ e.born))) = es.all (fun e => Nat.ble last e.born) := by
              have := MR.all (f := fun n => Nat.ble last n) g2
              rw [this, ← Array.all_toList]
              congr 1
              funext e
              rw [Bool.eq_iff_iff]; simp
            rw [e1, e2, e3]; exact hbad
          have hfil := MR.filter (f := fun n => !seen.contains n) g2
          have hleft : (arr.filter fun e => !(seen.toArray).contains e.born).toList = arr.toList.filter fun e => !seen.contains e.born := by
            rw [Array.toList_filter]; simp
          split at h
          · rename_i hf
            cases h
            rw [hf] at hfil
            have hnil : (arr.filter fun e => !(seen.toArray).contains e.born) = #[] := by
              apply Array.toList_inj.1
              rw [hleft]; exact hfil
            refine ⟨env, w, _, .inl ?_, over_VR env, hs, Tr.refl _ _ _ _ _⟩
            rw [eo]
            have c1 : ((#[] : Array MapEntry).filter fun e => decide (e.born < since)) = #[] := by simp
            have c2 : ((#[] : Array MapEntry).filter fun e => decide (e.born ≥ since)) = #[] := by simp
            have hch : (choose (.mapNext (((if (#[] : Array MapEntry).isEmpty = true then #[none] else #[]) ++ (#[] ++ #[]).map some) : Array (Option MapEntry)).size)).run P w = .ok 0 w := choose_one (by simp)
            simp only [Instr.next, Sem.run_bind, go, gm, Result.andThen_ok, hbad', Bool.false_eq_true, if_false, hnil, c1, c2, hch]
            simp [Sem.run_pure]
          · rename_i e hf
            cases hb : (Nat.blt e.born since && Nat.ble G id) <;> rw [hb] at h
            · cases h
            simp only [cond_true] at h
            simp only [Bool.and_eq_true] at hb
            obtain ⟨p1, rfl, rfl⟩ := up_some h
            rw [hf] at hfil
            obtain ⟨m, ms, hm1, hm2, hm3, hm4, hm5⟩ := hfil
            have hms : ms = [] := hm5
            subst hms
            have hone : (arr.filter fun e => !(seen.toArray).contains e.born) = #[m] := by
              apply Array.toList_inj.1
              rw [hleft]; exact hm1
            have hlt : m.born < since := by rw [← hm4]; simpa using hb.1
            obtain ⟨s1, s2⟩ := hs.set (G := G) (ob := .mapIter (some K.b) since (seen ++ [e.born]).toArray clock) r0 (Nat.le_of_ble_eq_true hb.2) hq rfl p1 ⟨hL0, some K.b, by simp, K, hK, rfl⟩
            refine ⟨env, _, .tuple #[.bool true, m.key, m.val], .inl ?_, ⟨_, rfl, _, _, rfl, rfl, _, _, rfl, hm2, _, _, rfl, hm3, rfl⟩, s1, s2⟩
            rw [eo]
            have c1 : (#[m].filter fun e => decide (e.born < since)) = #[m] := by simp [hlt]
            have c2 : (#[m].filter fun e => decide (e.born ≥ since)) = #[] := by simp [hlt]
            have hset : (setObj L.b (.mapIter (some K.b) since (seen ++ [m.born]).toArray clock)).run P w = .ok () { w with heap := w.heap.setIfInBounds L.b (.mapIter (some K.b) since (seen ++ [e.born]).toArray clock) } := by
              rw [← hm4]; exact setObj_run o1 (fun _ _ _ h => by cases h)
            have hch : (choose (.mapNext (((if (#[m] : Array MapEntry).isEmpty = true then #[none] else #[]) ++ (#[m] ++ #[]).map some) : Array (Option MapEntry)).size)).run P w = .ok 0 w := choose_one (by simp)
            simp only [Instr.next, Sem.run_bind, go, gm, Result.andThen_ok, hbad', Bool.false_eq_true, if_false, hone, c1, c2, hch]
            simp [hset, Sem.run_bind]
          · cases h
        · cases h
      · cases h
    · cases h
end Go.Ev

namespace Go.Ev
variable {P : Program} {G : Nat} {env : Env} {tm : T AV} {a : Act} {H : Hp} {nx : Nat} {w : World}

theorem act_append (hg : GL G env) (ht : TR env tm a.tmps) (hs : SR env H nx w) {c : Call} {t u e s : Nat} {d : TypeDesc} {z : AV} {x' y' : CO} {o : Oper} (ho : o.op = .call c) (hb : c.callee = .builtin .append) (hx : opdsOf G c.args.toList = some [x', y']) (hts : c.argTypes.toList = [t, u]) (hq : tySlice P t = some (e, s)) (h3 : P.underlying u = some d) (h4 : ∀ k, d ≠ .int k) (hz : tyZeroC P e = some z) (hzl : z.len = s) (hsm : smallBytes P e = true) (h0 : 0 < s)
    {v : AV} {H' : Hp} {nx' : Nat} (h : heavyA P G (.append s e x' y') tm H nx = .v v H' nx') : Acts P G a env H nx w o v H' nx' := by
  obtain ⟨h1, h2⟩ := slice_info hq
  obtain ⟨x, y, hl, hx, hy⟩ := opds2 hx
  obtain ⟨cs, hex⟩ := exec_b2 (a := a) ho hb hl hts
  have eo : (execOp a.eval o).run P w = ((Builtin.append_ #[t, u] o.type #[a.eval x, a.eval y]).run P w).andThen fun c w' => .ok (.value c) w' := by
    rw [hex]
    simp [builtin]
  simp only [heavyA] at h
  split at h
  · rename_i p q e1 e2
    obtain ⟨env', w', c, r1, r2, r3, r4⟩ := act_append_run (ty := o.type) hs h1 h2 h3 h4 hsm hz hzl h0 (opd_sound hg ht hx e1) (opd_sound hg ht hy e2) h
    exact ⟨env', w', c, .inl (by rw [eo, r1]; rfl), r2, r3, r4⟩
  · cases h

set_option maxHeartbeats 4000000 in
theorem heavy_sound (hg : GL G env) (ht : TR env tm a.tmps) (hs : SR env H nx w) {o : Oper} {co : COp} (hc : cOp P G o.op = some co) (hk : kind co = 3) {v : AV} {H' : Hp} {nx' : Nat} (h : heavyA P G co tm H nx = .v v H' nx') : Acts P G a env H nx w o v H' nx' := by
  cases ho : o.op with
  | store t x y => exact act_store hg ht hs ho hc h
  | mapUpdate t m k x =>
    rw [ho] at hc; simp only [cOp] at hc
    obtain ⟨q, hq, e⟩ := o1_some hc; obtain ⟨m', hm, e⟩ := o1_some e; obtain ⟨k', hk', e⟩ := o1_some e; obtain ⟨x', hx, e⟩ := o1_some e
    cases e
    exact act_mapupd hg ht hs (.inl ho) hq hm hk' hx h
  | insert t m k x =>
    rw [ho] at hc; simp only [cOp] at hc
    obtain ⟨q, hq, e⟩ := o1_some hc; obtain ⟨m', hm, e⟩ := o1_some e; obtain ⟨k', hk', e⟩ := o1_some e; obtain ⟨x', hx, e⟩ := o1_some e
    cases e
    exact act_mapupd hg ht hs (.inr ho) hq hm hk' hx h
  | range t x =>
    rw [ho] at hc; simp only [cOp] at hc
    obtain ⟨x', hx, e⟩ := o1_some hc
    split at e
    · rename_i hu; cases e; exact act_range hg ht hs ho hx (.inl ⟨rfl, hu⟩) h
    · rename_i k el hu; cases e; exact act_range hg ht hs ho hx (.inr ⟨rfl, k, el, hu⟩) h
    · cases e
  | next x s =>
    rw [ho] at hc; simp only [cOp] at hc
    obtain ⟨x', hx, e⟩ := o1_some hc
    cases e
    exact act_next hg ht hs ho hx h
  | call c =>
    rw [ho] at hc; simp only [cOp] at hc
    obtain ⟨xs, hx, e⟩ := o1_some hc
    split at e
    · rename_i b hb
      unfold cBuiltin at e
      split at e
      · exfalso; repeat' split at e
        all_goals (cases e)
        all_goals (cases hk)
      · exfalso; repeat' split at e
        all_goals (cases e)
        all_goals (cases hk)
      · rename_i t u x y ht'
        split at e
        · cases e
        · rename_i el s d hd hq hu
          split at e
          · rename_i z hz
            cases hb3 : (Nat.beq z.len s && smallBytes P el && Nat.blt 0 s) <;> rw [hb3] at e <;> cases e
            obtain ⟨b1, b2, b3⟩ := conj3 hb3
            exact act_append hg ht hs ho hb hx ht' hq hu hd hz (Nat.eq_of_beq_eq_true b1) b2 (by simpa using b3) h
          · cases e
        · cases e
      · rename_i t u x y ht'
        split at e
        · rename_i el s hq; cases e; exact act_copy hg ht hs ho hb hx ht' hq h
        · cases e
      · cases e; exact act_minmax (mx := false) hg ht hs ho hb hx h
      · cases e; exact act_minmax (mx := true) hg ht hs ho hb hx h
      · rename_i t u m k ht'
        obtain ⟨q, hq, e⟩ := o1_some e
        cases e
        exact act_delete hg ht hs ho hb hx ht' hq h
      · exfalso; cases e; cases hk
      · rename_i t ts x n ht'
        split at e
        · rename_i el hu
          split at e
          · rename_i hsz; cases e; exact act_ustr hg ht hs ho hb hx ht' hu hsz h
          · cases e
        · cases e
      · cases e
    · exfalso; obtain ⟨f, _, e⟩ := o1_some e; cases e
      simp only [heavyA] at h; split at h <;> cases h
    · exfalso; obtain ⟨f, _, e⟩ := o1_some e; cases e
      simp only [heavyA] at h
      split at h
      · split at h <;> cases h
      · cases h
  | defer c =>
    exfalso; rw [ho] at hc; simp only [cOp] at hc
    obtain ⟨xs, hx, e⟩ := o1_some hc
    split at e
    · obtain ⟨f, _, e⟩ := o1_some e; cases e
      simp only [heavyA] at h; split at h <;> cases h
    · cases e
  | load t x =>
    exfalso
    rw [ho] at hc
    simp only [cOp] at hc
    obtain ⟨x', _, e⟩ := o1_some hc
    obtain ⟨g, _, e⟩ := o1_some e
    cases g
    · cases e; cases hk
    · obtain ⟨n, _, e⟩ := o1_some e; cases e; cases hk
  | lookup t m k ok =>
    exfalso
    rw [ho] at hc
    simp only [cOp] at hc
    split at hc
    · obtain ⟨_, _, e⟩ := o1_some hc
      obtain ⟨_, _, e⟩ := o1_some e
      obtain ⟨_, _, e⟩ := o1_some e
      obtain ⟨_, _, e⟩ := o1_some e
      cases e; cases hk
    · cases hc
  | move x => exfalso; rw [ho] at hc; simp only [cOp] at hc; obtain ⟨_, _, e⟩ := o1_some hc; cases e; cases hk
  | assign x => exfalso; rw [ho] at hc; simp only [cOp] at hc; obtain ⟨_, _, e⟩ := o1_some hc; cases e; cases hk
  | pick x y z => exfalso; rw [ho] at hc; simp only [cOp] at hc; obtain ⟨_, _, e⟩ := o1_some hc; obtain ⟨_, _, e⟩ := o1_some e; obtain ⟨_, _, e⟩ := o1_some e; cases e; cases hk
  | alloc t => exfalso; rw [ho] at hc; simp only [cOp] at hc; obtain ⟨_, _, e⟩ := o1_some hc; cases e; cases hk
  | box t x => exfalso; rw [ho] at hc; simp only [cOp] at hc; obtain ⟨_, _, e⟩ := o1_some hc; cases e; cases hk
  | nilCheck t => exfalso; rw [ho] at hc; simp only [cOp] at hc; obtain ⟨_, _, e⟩ := o1_some hc; cases e; cases hk
  | extract x s => exfalso; rw [ho] at hc; simp only [cOp] at hc; obtain ⟨_, _, e⟩ := o1_some hc; cases e; cases hk
  | makeFunc f p q => exfalso; rw [ho] at hc; simp only [cOp] at hc; obtain ⟨_, _, e⟩ := o1_some hc; obtain ⟨_, _, e⟩ := o1_some e; cases e; cases hk
  | makeInterface t x => exfalso; rw [ho] at hc; simp only [cOp] at hc; obtain ⟨_, _, e⟩ := o1_some hc; split at e <;> cases e; cases hk
  | binOp op t x y u =>
    exfalso; rw [ho] at hc; simp only [cOp] at hc; obtain ⟨_, _, e⟩ := o1_some hc; obtain ⟨_, _, e⟩ := o1_some e
    cases op <;> first | (obtain ⟨_, _, e⟩ := o1_some e; cases e; cases hk; done) | (cases e; cases hk; done)
  | unOp op t x => exfalso; rw [ho] at hc; simp only [cOp] at hc; obtain ⟨_, _, e⟩ := o1_some hc; cases op <;> first | (cases e; cases hk; done) | (cases e; done)
  | fieldAddr s x f => exfalso; rw [ho] at hc; simp only [cOp] at hc; obtain ⟨_, _, e⟩ := o1_some hc; split at e; obtain ⟨_, _, e⟩ := o1_some e; cases e; cases hk; cases e
  | field t x f =>
    exfalso; rw [ho] at hc; simp only [cOp] at hc; obtain ⟨_, _, e⟩ := o1_some hc; obtain ⟨_, _, e⟩ := o1_some e; obtain ⟨g, _, e⟩ := o1_some e
    cases g
    · cases e; cases hk
    · obtain ⟨_, _, e⟩ := o1_some e; cases e; cases hk
  | indexAddr t x i =>
    exfalso; rw [ho] at hc; simp only [cOp] at hc; obtain ⟨_, _, e⟩ := o1_some hc; obtain ⟨_, _, e⟩ := o1_some e
    split at e
    · obtain ⟨_, _, e⟩ := o1_some e; cases e; cases hk
    · obtain ⟨_, _, e⟩ := o1_some e; cases e; cases hk
    · cases e
  | index t x i =>
    exfalso; rw [ho] at hc; simp only [cOp] at hc; obtain ⟨_, _, e⟩ := o1_some hc; obtain ⟨_, _, e⟩ := o1_some e
    split at e
    · cases e; cases hk
    · obtain ⟨_, _, e⟩ := o1_some e; obtain ⟨g, _, e⟩ := o1_some e; cases g <;> cases e <;> cases hk
    · cases e
  | build t ps =>
    exfalso; rw [ho] at hc; simp only [cOp] at hc
    split at hc
    · rename_i z fs _ _
      cases hsz : sized P fs.toList <;> rw [hsz] at hc
      · cases hc
      · obtain ⟨_, _, e⟩ := o1_some hc; cases e; cases hk
    · obtain ⟨_, _, e⟩ := o1_some hc; obtain ⟨_, _, e⟩ := o1_some e; cases e; cases hk
    · cases hc
  | typeAssert x xt t ok =>
    exfalso; rw [ho] at hc; simp only [cOp] at hc; obtain ⟨_, _, e⟩ := o1_some hc
    split at e
    · cases ok
      · cases e; cases hk
      · obtain ⟨_, _, e⟩ := o1_some e; cases e; cases hk
    · cases ok
      · cases e; cases hk
      · obtain ⟨_, _, e⟩ := o1_some e; cases e; cases hk
    · cases e
  | buildSlice t n ps =>
    exfalso
    rw [ho] at hc
    simp only [cOp] at hc
    obtain ⟨es, _, e⟩ := o1_some hc
    obtain ⟨z, _, e⟩ := o1_some e
    obtain ⟨l, _, e⟩ := o1_some e
    cases hb : (Nat.beq z.len es.2 && Nat.ble (Nat.mul n es.2) 100000 && Nat.blt 0 es.2) <;> rw [hb] at e <;> cases e
    cases hk
  | makeMap t r =>
    exfalso
    rw [ho] at hc
    simp only [cOp] at hc
    split at hc
    · cases hc; cases hk
    · split at hc
      · cases hc; cases hk
      · cases hc
    · cases hc
  | makeSlice t l c =>
    exfalso
    rw [ho] at hc
    simp only [cOp] at hc
    obtain ⟨es, _, e⟩ := o1_some hc
    obtain ⟨z, _, e⟩ := o1_some e
    obtain ⟨l, _, e⟩ := o1_some e
    obtain ⟨l, _, e⟩ := o1_some e
    cases hb : (Nat.beq z.len es.2 && smallBytes P es.1 && Nat.blt 0 es.2) <;> rw [hb] at e <;> cases e
    cases hk
  | slice t x lo hi mx =>
    exfalso; rw [ho] at hc; simp only [cOp] at hc
    obtain ⟨x', hx, e⟩ := o1_some hc
    obtain ⟨lo', h1, e⟩ := o1_some e
    obtain ⟨hi', h2, e⟩ := o1_some e
    obtain ⟨mx', h3, e⟩ := o1_some e
    cases hm : (mx'.isSome && !hi'.isSome) <;> rw [hm] at e
    · simp only [cond_false] at e
      split at e
      · cases hms : mx'.isSome <;> rw [hms] at e <;> cases e; cases hk
      · obtain ⟨s, hs, e⟩ := o1_some e; cases e; cases hk
      · obtain ⟨s, hs, e⟩ := o1_some e; cases e; cases hk
      · obtain ⟨s, hs, e⟩ := o1_some e; cases e; cases hk
      · cases e
    · cases e
  | convert s d x =>
    exfalso; rw [ho] at hc; simp only [cOp] at hc
    obtain ⟨x', hx, e⟩ := o1_some hc
    unfold cConvert at e
    repeat' split at e
    all_goals first | (cases e; cases hk; done) | (cases e; done)
  | _ => exfalso; rw [ho] at hc; simp [cOp] at hc
end Go.Ev

namespace Go.Ev
variable {P : Program} {G : Nat}

def isCD (co : COp) : Bool := match co with | .call .. => true | .defer .. => true | _ => false

theorem no_conv {s d : Nat} {x : CO} {co : COp} (h : cConvert P s d x = some co) : isCD co = false := by
  unfold cConvert at h
  repeat' split at h
  all_goals first | (cases h; done) | (cases h; rfl)

theorem no_builtin {b : Builtin} {ts : List Nat} {xs : List CO} {co : COp} (h : cBuiltin P b ts xs = some co) : isCD co = false := by
  unfold cBuiltin at h
  repeat' (split at h)
  all_goals first
    | (cases h; done)
    | (cases h; rfl)
    | (obtain ⟨_, _, h⟩ := o1_some h; cases h; rfl)
    | (simp only [cond_eq_ite] at h; split at h <;> cases h; rfl)

set_option maxHeartbeats 4000000 in
theorem no_other {op : Op} {co : COp} (hc : cOp P G op = some co) (h1 : ∀ c, op ≠ .call c) (h2 : ∀ c, op ≠ .defer c) (hk : isCD co = true) : False := by
  cases op with
  | call c => exact h1 c rfl
  | defer c => exact h2 c rfl
  | convert s d x => simp only [cOp] at hc; obtain ⟨_, _, e⟩ := o1_some hc; rw [no_conv e] at hk; cases hk
  | store t x y => simp only [cOp] at hc; obtain ⟨_, _, e⟩ := o1_some hc; obtain ⟨_, _, e⟩ := o1_some e; obtain ⟨_, _, e⟩ := o1_some e; cases e; cases hk
  | mapUpdate t m k x => simp only [cOp] at hc; obtain ⟨_, _, e⟩ := o1_some hc; obtain ⟨_, _, e⟩ := o1_some e; obtain ⟨_, _, e⟩ := o1_some e; obtain ⟨_, _, e⟩ := o1_some e; cases e; cases hk
  | insert t m k x => simp only [cOp] at hc; obtain ⟨_, _, e⟩ := o1_some hc; obtain ⟨_, _, e⟩ := o1_some e; obtain ⟨_, _, e⟩ := o1_some e; obtain ⟨_, _, e⟩ := o1_some e; cases e; cases hk
  | range t x => simp only [cOp] at hc; obtain ⟨_, _, e⟩ := o1_some hc; split at e <;> cases e <;> cases hk
  | next x s => simp only [cOp] at hc; obtain ⟨_, _, e⟩ := o1_some hc; cases e; cases hk
  | load t x =>
    simp only [cOp] at hc
    obtain ⟨x', _, e⟩ := o1_some hc
    obtain ⟨g, _, e⟩ := o1_some e
    cases g
    · cases e; cases hk
    · obtain ⟨n, _, e⟩ := o1_some e; cases e; cases hk
  | lookup t m k ok =>
    simp only [cOp] at hc
    split at hc
    · obtain ⟨_, _, e⟩ := o1_some hc
      obtain ⟨_, _, e⟩ := o1_some e
      obtain ⟨_, _, e⟩ := o1_some e
      obtain ⟨_, _, e⟩ := o1_some e
      cases e; cases hk
    · cases hc
  | move x => simp only [cOp] at hc; obtain ⟨_, _, e⟩ := o1_some hc; cases e; cases hk
  | assign x => simp only [cOp] at hc; obtain ⟨_, _, e⟩ := o1_some hc; cases e; cases hk
  | pick x y z => simp only [cOp] at hc; obtain ⟨_, _, e⟩ := o1_some hc; obtain ⟨_, _, e⟩ := o1_some e; obtain ⟨_, _, e⟩ := o1_some e; cases e; cases hk
  | alloc t => simp only [cOp] at hc; obtain ⟨_, _, e⟩ := o1_some hc; cases e; cases hk
  | box t x => simp only [cOp] at hc; obtain ⟨_, _, e⟩ := o1_some hc; cases e; cases hk
  | nilCheck t => simp only [cOp] at hc; obtain ⟨_, _, e⟩ := o1_some hc; cases e; cases hk
  | extract x s => simp only [cOp] at hc; obtain ⟨_, _, e⟩ := o1_some hc; cases e; cases hk
  | makeFunc f p q => simp only [cOp] at hc; obtain ⟨_, _, e⟩ := o1_some hc; obtain ⟨_, _, e⟩ := o1_some e; cases e; cases hk
  | makeInterface t x => simp only [cOp] at hc; obtain ⟨_, _, e⟩ := o1_some hc; split at e <;> cases e; cases hk
  | binOp op t x y u =>
    simp only [cOp] at hc; obtain ⟨_, _, e⟩ := o1_some hc; obtain ⟨_, _, e⟩ := o1_some e
    cases op <;> first | (obtain ⟨_, _, e⟩ := o1_some e; cases e; cases hk; done) | (cases e; cases hk; done)
  | unOp op t x => simp only [cOp] at hc; obtain ⟨_, _, e⟩ := o1_some hc; cases op <;> first | (cases e; cases hk; done) | (cases e; done)
  | fieldAddr s x f => simp only [cOp] at hc; obtain ⟨_, _, e⟩ := o1_some hc; split at e; obtain ⟨_, _, e⟩ := o1_some e; cases e; cases hk; cases e
  | field t x f =>
    simp only [cOp] at hc; obtain ⟨_, _, e⟩ := o1_some hc; obtain ⟨_, _, e⟩ := o1_some e; obtain ⟨g, _, e⟩ := o1_some e
    cases g
    · cases e; cases hk
    · obtain ⟨_, _, e⟩ := o1_some e; cases e; cases hk
  | indexAddr t x i =>
    simp only [cOp] at hc; obtain ⟨_, _, e⟩ := o1_some hc; obtain ⟨_, _, e⟩ := o1_some e
    split at e
    · obtain ⟨_, _, e⟩ := o1_some e; cases e; cases hk
    · obtain ⟨_, _, e⟩ := o1_some e; cases e; cases hk
    · cases e
  | index t x i =>
    simp only [cOp] at hc; obtain ⟨_, _, e⟩ := o1_some hc; obtain ⟨_, _, e⟩ := o1_some e
    split at e
    · cases e; cases hk
    · obtain ⟨_, _, e⟩ := o1_some e; obtain ⟨g, _, e⟩ := o1_some e; cases g <;> cases e <;> cases hk
    · cases e
  | build t ps =>
    simp only [cOp] at hc
    split at hc
    · rename_i z fs _ _
      cases hsz : sized P fs.toList <;> rw [hsz] at hc
      · cases hc
      · obtain ⟨_, _, e⟩ := o1_some hc; cases e; cases hk
    · obtain ⟨_, _, e⟩ := o1_some hc; obtain ⟨_, _, e⟩ := o1_some e; cases e; cases hk
    · cases hc
  | typeAssert x xt t ok =>
    simp only [cOp] at hc; obtain ⟨_, _, e⟩ := o1_some hc
    split at e
    · cases ok
      · cases e; cases hk
      · obtain ⟨_, _, e⟩ := o1_some e; cases e; cases hk
    · cases ok
      · cases e; cases hk
      · obtain ⟨_, _, e⟩ := o1_some e; cases e; cases hk
    · cases e
  | buildSlice t n ps =>
    simp only [cOp] at hc
    obtain ⟨es, _, e⟩ := o1_some hc
    obtain ⟨z, _, e⟩ := o1_some e
    obtain ⟨l, _, e⟩ := o1_some e
    cases hb : (Nat.beq z.len es.2 && Nat.ble (Nat.mul n es.2) 100000 && Nat.blt 0 es.2) <;> rw [hb] at e <;> cases e
    cases hk
  | makeMap t r =>
    simp only [cOp] at hc
    split at hc
    · cases hc; cases hk
    · split at hc
      · cases hc; cases hk
      · cases hc
    · cases hc
  | makeSlice t l c =>
    simp only [cOp] at hc
    obtain ⟨es, _, e⟩ := o1_some hc
    obtain ⟨z, _, e⟩ := o1_some e
    obtain ⟨l, _, e⟩ := o1_some e
    obtain ⟨l, _, e⟩ := o1_some e
    cases hb : (Nat.beq z.len es.2 && smallBytes P es.1 && Nat.blt 0 es.2) <;> rw [hb] at e <;> cases e
    cases hk
  | slice t x lo hi mx =>
    simp only [cOp] at hc
    obtain ⟨x', hx, e⟩ := o1_some hc
    obtain ⟨lo', h1, e⟩ := o1_some e
    obtain ⟨hi', h2, e⟩ := o1_some e
    obtain ⟨mx', h3, e⟩ := o1_some e
    cases hm : (mx'.isSome && !hi'.isSome) <;> rw [hm] at e
    · simp only [cond_false] at e
      split at e
      · cases hms : mx'.isSome <;> rw [hms] at e <;> cases e; cases hk
      · obtain ⟨s, hs, e⟩ := o1_some e; cases e; cases hk
      · obtain ⟨s, hs, e⟩ := o1_some e; cases e; cases hk
      · obtain ⟨s, hs, e⟩ := o1_some e; cases e; cases hk
      · cases e
    · cases e
  | _ => simp [cOp] at hc
end Go.Ev

namespace Go.Ev
variable {P : Program} {G : Nat} {env : Env} {tm : T AV} {a : Act} {H : Hp} {nx : Nat} {w : World}

theorem R_up {a : AV} {nx : Nat} {x : Option Hp} : (∀ f args, R.up a nx x ≠ .call f args) ∧ ∀ f args, R.up a nx x ≠ .defer f args := by
  cases x <;> exact ⟨(fun _ _ h => by cases h), fun _ _ h => by cases h⟩
theorem R_new {a : AV} {nx : Nat} {H : Hp} {o : AO} : (∀ f args, R.new a H nx o ≠ .call f args) ∧ ∀ f args, R.new a H nx o ≠ .defer f args := by
  unfold R.new; cases H.put nx o <;> exact ⟨(fun _ _ h => by cases h), fun _ _ h => by cases h⟩
theorem R_of {nx : Nat} {H : Hp} {x : Option AV} : (∀ f args, R.of H nx x ≠ .call f args) ∧ ∀ f args, R.of H nx x ≠ .defer f args := by
  unfold R.of; cases x <;> exact ⟨(fun _ _ h => by cases h), fun _ _ h => by cases h⟩
theorem R_app {nx s e : Nat} {H : Hp} {x y : AV} : (∀ f args, appendA G H nx s e x y ≠ .call f args) ∧ ∀ f args, appendA G H nx s e x y ≠ .defer f args := by
  unfold appendA
  simp only [cond_eq_ite]
  constructor <;> (intro f args h; repeat' split at h) <;> first | (cases h; done) | exact R_new.1 _ _ h | exact R_up.1 _ _ h | exact R_new.2 _ _ h | exact R_up.2 _ _ h

set_option maxHeartbeats 4000000 in
theorem heavy_only {co : COp} {f : Nat} {args : AV} (h : heavyA P G co tm H nx = .call f args ∨ heavyA P G co tm H nx = .defer f args) : (∃ c xs, co = .call c xs) ∨ ∃ c xs, co = .defer c xs := by
  cases co with
  | call c xs => exact .inl ⟨_, _, rfl⟩
  | defer c xs => exact .inr ⟨_, _, rfl⟩
  | range b x => exfalso; cases b <;> (simp only [heavyA, cond_eq_ite] at h; rcases h with h | h <;> (repeat' split at h) <;> first | (cases h; done) | exact R_new.1 _ _ h | exact R_up.1 _ _ h | exact R_new.2 _ _ h | exact R_up.2 _ _ h)
  | next b x => exfalso; cases b <;> (simp only [heavyA, cond_eq_ite] at h; rcases h with h | h <;> (repeat' split at h) <;> first | (cases h; done) | exact R_new.1 _ _ h | exact R_up.1 _ _ h | exact R_new.2 _ _ h | exact R_up.2 _ _ h)
  | _ =>
    exfalso
    simp only [heavyA, cond_eq_ite] at h
    rcases h with h | h <;> (repeat' split at h) <;> first | (cases h; done) | exact R_new.1 _ _ h | exact R_up.1 _ _ h | exact R_of.1 _ _ h | exact R_app.1 _ _ h | exact R_new.2 _ _ h | exact R_up.2 _ _ h | exact R_of.2 _ _ h | exact R_app.2 _ _ h

theorem method_run {t f : Nat} {name : String} (h : methodOf P t name = some f) (k : Nat) (v : Value) : (method (k + 1) t v name).run P w = .ok (f, v) w := by
  unfold methodOf at h
  split at h
  · rename_i i hi
    split at h
    · rename_i m hm
      split at h
      all_goals first | (cases h; done) | skip
      · rename_i f' el hp hf hu
        cases h
        simp [method, typeInfo, hi, hm, hp, hf, follow, receiverAt, underlying_run hu, Place.get, Sem.run_bind]
      · rename_i f' d hn0 hp hf hu
        cases h
        have hn : ∀ e, d ≠ .pointer e := fun e q => hn0 e q
        cases d <;> first | exact absurd rfl (hn _) | simp [method, typeInfo, hi, hm, hp, hf, follow, receiverAt, underlying_run hu, Place.get, Sem.run_bind]
    · cases h
  · cases h

theorem call_run (hg : GL G env) (ht : TR env tm a.tmps) {o : Oper} {co : COp} (hc : cOp P G o.op = some co) {f : Nat} {args : AV} (h : heavyA P G co tm H nx = .call f args) :
    ∃ xs, (execOp a.eval o).run P w = (callFunc f xs).run P w ∧ VL env args xs.toList := by
  have hco : ∃ c xs, co = .call c xs := by
    rcases heavy_only (.inl h) with q | ⟨c, xs, rfl⟩
    · exact q
    · exfalso; simp only [heavyA] at h; split at h <;> cases h
  obtain ⟨c, xs, rfl⟩ := hco
  cases ho : o.op with
  | call cl =>
    rw [ho] at hc; simp only [cOp] at hc
    obtain ⟨ys, hx, e⟩ := o1_some hc
    split at e
    · cases no_builtin e
    · rename_i fo hcal
      obtain ⟨f', hf', e⟩ := o1_some e
      cases e
      simp only [heavyA] at h
      split at h
      · rename_i g first cap as e1 e2
        cases h
        obtain ⟨p, q, r1, r2, r3⟩ := opd_sound hg ht hf' e1
        have r4 := opds_sound hg ht hx e2
        refine ⟨p ++ (cl.args.map a.eval) ++ q, ?_, ?_⟩
        · simp [execOp, ho, resolve, hcal, Deferred.ofValue, r1, invoke]
        · have := VL.app r2 (VL.app r4 r3)
          simpa using this
      · cases h
    · rename_i r name hcal
      obtain ⟨r', hr', e⟩ := o1_some e
      cases e
      simp only [heavyA] at h
      split at h
      · rename_i t v as e1 e2
        split at h
        · rename_i g hg'
          cases h
          obtain ⟨y, r1, r2⟩ := opd_sound hg ht hr' e1
          have r4 := opds_sound hg ht hx e2
          refine ⟨#[y] ++ cl.args.map a.eval, ?_, ?_⟩
          · have hm : ∀ k, (method (k + 1) t y name).run P w = .ok (f, y) w := fun k => method_run hg' k y
            have hm' := hm (P.types.size + Made.depth - 1)
            have hm2 : (method (P.types.size + Made.depth) t y name).run P w = .ok (f, y) w := hm'
            simp only [execOp, ho, resolve, hcal, r1, Sem.run_bind, Sem.run_pure, Result.andThen_ok, invoke, callMethod, List.getElem?_toArray, Array.getElem?_append]
            have hex : (cl.args.map a.eval).extract 0 cl.args.size = cl.args.map a.eval := by
              have : cl.args.size = (cl.args.map a.eval).size := by simp
              rw [this]; simp
            simp [hm2, Sem.run_bind]
            rw [hex]
          · exact ⟨y, (cl.args.toList.map a.eval), by simp, r2, by simpa using r4⟩
        · cases h
      · cases h
  | defer cl =>
    exfalso; rw [ho] at hc; simp only [cOp] at hc
    obtain ⟨ys, hx, e⟩ := o1_some hc
    split at e
    · obtain ⟨_, _, e⟩ := o1_some e; cases e
    · cases e
  | _ => exact (no_other hc (by rw [ho]; intro c h; cases h) (by rw [ho]; intro c h; cases h) rfl).elim

theorem defer_run (hg : GL G env) (ht : TR env tm a.tmps) {o : Oper} {co : COp} (hc : cOp P G o.op = some co) {f : Nat} {args : AV} (h : heavyA P G co tm H nx = .defer f args) :
    ∃ d cap, (execOp a.eval o).run P w = .ok (.defer d) w ∧ d.target = .fn (.func f) cap := by
  have hco : ∃ c xs, co = .defer c xs := by
    rcases heavy_only (.inr h) with ⟨c, xs, rfl⟩ | q
    · exfalso; cases c <;> (simp only [heavyA] at h; repeat' split at h) <;> cases h
    · exact q
  obtain ⟨c, xs, rfl⟩ := hco
  cases ho : o.op with
  | defer cl =>
    rw [ho] at hc; simp only [cOp] at hc
    obtain ⟨ys, hx, e⟩ := o1_some hc
    split at e
    · rename_i fo hcal
      obtain ⟨f', hf', e⟩ := o1_some e
      cases e
      simp only [heavyA] at h
      split at h
      · rename_i g first cap as e1 e2
        cases h
        obtain ⟨p, q, r1, r2, r3⟩ := opd_sound hg ht hf' e1
        exact ⟨_, q, by simp [execOp, ho, resolve, hcal, Deferred.ofValue, r1]; rfl, rfl⟩
      · cases h
    · cases e
  | call cl =>
    exfalso; rw [ho] at hc; simp only [cOp] at hc
    obtain ⟨ys, hx, e⟩ := o1_some hc
    split at e
    · cases no_builtin e
    · obtain ⟨_, _, e⟩ := o1_some e; cases e
    · obtain ⟨_, _, e⟩ := o1_some e; cases e
  | _ => exact (no_other hc (by rw [ho]; intro c h; cases h) (by rw [ho]; intro c h; cases h) rfl).elim
end Go.Ev

namespace Go.Ev
variable {P : Program} {G N : Nat} {env : Env} {tm : T AV} {H : Hp} {nx : Nat} {ds : DS} {a : Act} {w : World}

/-- what is deferred -/
def DR : DS → List Deferred → Prop
  | [], l => l = []
  | d :: ds, l => ∃ x l', l = x :: l' ∧ (∃ cap, x.target = .fn (.func d.1) cap) ∧ DR ds l'

/-- the abstract state tells the concrete one -/
structure St (G N : Nat) (env : Env) (tm : T AV) (H : Hp) (nx : Nat) (ds : DS) (a : Act) (w : World) : Prop where
  g : GL G env
  t : TR env tm a.tmps
  n : a.tmps.size = N
  m : ∀ d, d < N → ∃ v, tm.get d = some v
  s : SR env H nx w
  d : DR ds a.defers

theorem St.put (h : St G N env tm H nx ds a w) {env' : Env} (hle : Le env env') {H' : Hp} {nx' : Nat} {w' : World} (hs : SR env' H' nx' w') {dst : Option Nat} (hd : ∀ d, dst = some d → d < N) {v : AV} {c : Value} (hv : VR env' v c) {tm' : T AV} (hp : putD tm dst v = some tm') :
    St G N env' tm' H' nx' ds (a.put dst c) w' := by
  cases dst with
  | none => cases hp; exact ⟨h.g.ext hle, h.t.ext hle, h.n, h.m, hs, h.d⟩
  | some d =>
    change tm.put d v = some tm' at hp
    refine ⟨h.g.ext hle, ?_, by simp [Act.put, h.n], fun j hj => (by rw [T.get_put hp]; by_cases e : j = d; exact ⟨v, by simp [e]⟩; simp only [e, if_false]; exact h.m j hj), hs, h.d⟩
    intro i u hu
    rw [T.get_put hp] at hu
    by_cases e : i = d
    · subst e
      simp only [if_true] at hu
      cases hu
      exact ⟨c, by simp [Act.put, h.n, hd _ rfl], hv⟩
    · simp only [e, if_false] at hu
      obtain ⟨x, h1, h2⟩ := (h.t.ext hle) i u hu
      exact ⟨x, by simp only [Act.put]; rw [Array.getElem?_setIfInBounds_ne (fun q => e q.symm)]; exact h1, h2⟩

theorem guard_sound {ops : Array Oper} {o : Oper} {g : Option (Nat × Bool)} (hg : cGuard ops o.guard = some g) (ht : TR env tm a.tmps) {b : Bool} (hb : holdsG tm g = some b) : Region.wanted o (yielded ops a.tmps) = b := by
  unfold Region.wanted
  cases ho : o.guard with
  | none => rw [ho] at hg; cases hg; simp only [holdsG, Option.some.injEq] at hb; exact hb
  | some jw =>
    obtain ⟨j, want⟩ := jw
    rw [ho] at hg
    simp only [cGuard] at hg
    split at hg
    · rename_i o' ho'
      split at hg
      · rename_i d hd
        cases hg
        simp only [holdsG] at hb
        split at hb
        · rename_i b' hq
          obtain ⟨x, h1, h2⟩ := ht _ _ hq
          simp only [VR] at h2
          subst h2
          cases hb
          simp only [yielded, ho', hd, Option.bind_some, h1]
          cases b' <;> cases want <;> rfl
        · cases hb
        · rename_i v hn1 hn2 hq
          obtain ⟨x, h1, h2⟩ := ht _ _ hq
          cases hb
          have hx : ∀ b, x ≠ .bool b := by
            intro b hx
            subst hx
            cases v <;> simp_all [VR]
          have : yielded ops a.tmps j = none := by
            simp only [yielded, ho', hd, Option.bind_some, h1]
            cases x <;> first | rfl | exact absurd rfl (hx _)
          simp [this]
        · cases hb
      · cases hg
    · cases hg

/-- what a call gives -/
def Gives (G : Nat) (env : Env) (H : Hp) (nx : Nat) (w : World) (v : AV) (H' : Hp) (nx' : Nat) (c : Value) (w' : World) : Prop :=
  ∃ env', VR env' v c ∧ SR env' H' nx' w' ∧ Tr G env H nx w env' H' nx' w'

def Done (P : Program) (G : Nat) (env : Env) (H : Hp) (nx : Nat) (w : World) (f : Nat) (xs : Array Value) (v : AV) (H' : Hp) (nx' : Nat) : Prop :=
  ((callFunc f xs).run P w = .ok (.enter f xs) w ∧ Calls P f xs w fun e w' => ∃ c, e = .returned c ∧ Gives G env H nx w v H' nx' c w') ∨
  (∃ c w', (callFunc f xs).run P w = .ok (.value c) w' ∧ Gives G env H nx w v H' nx' c w')

def CallOK (P : Program) (G : Nat) (ih : Nat → AV → Hp → Nat → VRes) : Prop :=
  ∀ f args H nx v H' nx', ih f args H nx = .ok v H' nx' → ∀ env w xs, GL G env → VL env args xs.toList → SR env H nx w → Done P G env H nx w f xs v H' nx'

structure Fits (P : Program) (G N : Nat) (ops : Array Oper) (o : Oper) (ce : CE) : Prop where
  co : cOp P G o.op = some ce.co
  guard : cGuard ops o.guard = some ce.guard
  kd : ce.kd = kind ce.co
  dst : ce.dst = o.dst
  lt : ∀ d, ce.dst = some d → d < N

theorem fits {ops : Array Oper} {o : Oper} {ce : CE} (h : cOper P G N ops o = some ce) : Fits P G N ops o ce ∧ ce.chk = [] := by
  unfold cOper at h
  split at h
  · rename_i co g h1 h2
    split at h
    · rename_i hd; cases h; exact ⟨⟨h1, h2, rfl, hd.symm, fun d e => by cases e⟩, rfl⟩
    · rename_i d hd
      cases hb : Nat.blt d N <;> rw [hb] at h
      · cases h
      · cases h
        exact ⟨⟨h1, h2, rfl, hd.symm, fun d e => by cases e; simpa using hb⟩, rfl⟩
  · cases h

/-- the end of an ordered run -/
abbrev Kont := T AV → Hp → Nat → DS → ER

theorem op_sound {ih : Nat → AV → Hp → Nat → VRes} (hih : CallOK P G ih) {ops : Array Oper} {o : Oper} {i : Nat} (hi : ops[i]? = some o) {ce : CE} (hf : Fits P G N ops o ce) (hst : St G N env tm H nx ds a w) {k : Kont} {x : Nat} {tm1 : T AV} {H1 : Hp} {nx1 : Nat} {ds1 : DS}
    (h : opA P G ih ce tm H nx ds k = .ok x tm1 H1 nx1 ds1) {K : Act → World → Prop} {Q : Exit → Act → World → Prop}
    (hk : ∀ env' tm' H' nx' ds' a' w', St G N env' tm' H' nx' ds' a' w' → Tr G env H nx w env' H' nx' w' → k tm' H' nx' ds' = .ok x tm1 H1 nx1 ds1 → K a' w') : wpOp P ops Q i K a w := by
  unfold wpOp
  rw [hi]
  simp only
  have dlt : ∀ d, o.dst = some d → d < N := fun d e => hf.lt d (by rw [hf.dst]; exact e)
  cases hg : holdsG tm ce.guard with
  | none => unfold opA at h; rw [hg] at h; cases h
  | some b =>
    rw [guard_sound hf.guard hst.t hg]
    cases b with
    | false =>
      have h : (match putD tm ce.dst undefA with | some tm => k tm H nx ds | none => .no) = .ok x tm1 H1 nx1 ds1 := by unfold opA at h; rw [hg] at h; cases hp : putD tm ce.dst undefA <;> rw [hp] at h <;> exact h
      cases hp : putD tm ce.dst undefA with
      | none => rw [hp] at h; cases h
      | some tm' =>
        rw [hp] at h
        rw [hf.dst] at hp
        exact hk _ _ _ _ _ _ _ (hst.put (Le.refl _) hst.s dlt (undef_VR env) hp) (Tr.refl _ _ _ _ _) h
    | true =>
      refine .inl ?_
      unfold Oper.wp
      have hkd' := hf.kd
      cases hkd : kind ce.co with
      | zero =>
        rw [hkd] at hkd'
        have h : (match pureA P ce.co tm with | some v => (match putD tm ce.dst v with | some tm => k tm H nx ds | none => .no) | none => .no) = .ok x tm1 H1 nx1 ds1 := by
          unfold opA at h; rw [hg, hkd'] at h
          cases hv : pureA P ce.co tm with
          | none => rw [hv] at h; exact h
          | some v => rw [hv] at h; cases hp : putD tm ce.dst v <;> simp only [hp] at h ⊢ <;> exact h
        cases hv : pureA P ce.co tm with
        | none => rw [hv] at h; cases h
        | some v =>
          rw [hv] at h
          cases hp : putD tm ce.dst v with
          | none => simp only [hp] at h; cases h
          | some tm' =>
            simp only [hp] at h
            rw [hf.dst] at hp
            obtain ⟨c, r1, r2⟩ := pure_sound hst.g hst.t hf.co hkd hv w
            rw [r1]
            exact hk _ _ _ _ _ _ _ (hst.put (Le.refl _) hst.s dlt r2 hp) (Tr.refl _ _ _ _ _) h
      | succ n =>
        rw [hkd] at hkd'
        cases n with
        | zero =>
          have h : (match readA P ce.co tm H with | some v => (match putD tm ce.dst v with | some tm => k tm H nx ds | none => .no) | none => .no) = .ok x tm1 H1 nx1 ds1 := by
            unfold opA at h; rw [hg, hkd'] at h
            cases hv : readA P ce.co tm H with
            | none => rw [hv] at h; exact h
            | some v => rw [hv] at h; cases hp : putD tm ce.dst v <;> simp only [hp] at h ⊢ <;> exact h
          cases hv : readA P ce.co tm H with
          | none => rw [hv] at h; cases h
          | some v =>
            rw [hv] at h
            cases hp : putD tm ce.dst v with
            | none => simp only [hp] at h; cases h
            | some tm' =>
              simp only [hp] at h
              rw [hf.dst] at hp
              obtain ⟨c, r1, r2⟩ := read_sound hst.g hst.t hst.s hf.co hkd hv
              rw [r1]
              exact hk _ _ _ _ _ _ _ (hst.put (Le.refl _) hst.s dlt r2 hp) (Tr.refl _ _ _ _ _) h
        | succ n =>
          cases n with
          | zero =>
            have h : (match newA ce.co tm nx with
              | none => ER.no
              | some (v, o) => (match H.put nx o, putD tm ce.dst v with | some H, some tm => k tm H (Nat.succ nx) ds | _, _ => .no)) = .ok x tm1 H1 nx1 ds1 := by unfold opA at h; rw [hg, hkd'] at h; exact h
            split at h
            · cases h
            · rename_i v ob hnw
              split at h
              · rename_i H' tm' hH hp
                rw [hf.dst] at hp
                obtain ⟨c, obj, w', r1, r2, r3, r4, r5, L, hL, r6⟩ := new_sound (w := w) hst.g hst.t hf.co hkd hnw
                obtain ⟨env', s1, s2, s3, _⟩ := SR.new (G := G) hst.s L hL hH r2 r3 r4 r5 (fun env' hle he => (r6 env' hle he).2)
                rw [r1]
                exact hk _ _ _ _ _ _ _ (hst.put s3.le s2 dlt (r6 env' s3.le s1).1 hp) s3 h
              · cases h
          | succ n =>
            have h : (match heavyA P G ce.co tm H nx with
              | .no => ER.no
              | .v a H nx => (match putD tm ce.dst a with | some tm => bif chkA P tm H ce.chk then k tm H nx ds else ER.no | none => ER.no)
              | .call f args => (match ih f args H nx with
                | .no => ER.no
                | .ok a H nx => (match putD tm ce.dst a with | some tm => bif chkA P tm H ce.chk then k tm H nx ds else ER.no | none => ER.no))
              | .defer f args => (match putD tm ce.dst undefA with | some tm => bif chkA P tm H ce.chk then k tm H nx ((f, args) :: ds) else ER.no | none => ER.no)) = ER.ok x tm1 H1 nx1 ds1 := by unfold opA at h; rw [hg, hkd'] at h; exact h
            split at h
            · cases h
            · rename_i v H' nx' hv
              split at h
              · rename_i tm' hp
                cases hck : chkA P tm' H' ce.chk <;> rw [hck] at h
                · cases h
                · simp only [cond_true] at h
                  rw [hf.dst] at hp
                  have hk3 : kind ce.co = 3 := by
                    generalize ce.co = co at hkd
                    cases co <;> first | (cases hkd; done) | rfl
                  obtain ⟨env', w', c, r1, r2, r3, r4⟩ := heavy_sound hst.g hst.t hst.s hf.co hk3 hv
                  rcases r1 with r1 | ⟨r1, rfl⟩
                  · rw [r1]; exact hk _ _ _ _ _ _ _ (hst.put r4.le r3 dlt r2 hp) r4 h
                  · rw [r1]; exact hk _ _ _ _ _ _ _ (hst.put r4.le r3 dlt r2 hp) r4 h
              · cases h
            · rename_i f args hcall
              obtain ⟨xs, e1, e2⟩ := call_run (w := w) hst.g hst.t hf.co hcall
              split at h
              · cases h
              · rename_i v H' nx' hv
                split at h
                · rename_i tm' hp
                  cases hck : chkA P tm' H' ce.chk <;> rw [hck] at h
                  · cases h
                  · simp only [cond_true] at h
                    rw [hf.dst] at hp
                    rw [e1]
                    rcases hih _ _ _ _ _ _ _ hv env w xs hst.g e2 hst.s with ⟨r1, r2⟩ | ⟨c, w', r1, env', q1, q2, q3⟩
                    · rw [r1, Oper.upon_enter]
                      refine r2.mono ?_
                      rintro e w' ⟨c, rfl, env', q1, q2, q3⟩
                      exact hk _ _ _ _ _ _ _ (hst.put q3.le q2 dlt q1 hp) q3 h
                    · rw [r1]; exact hk _ _ _ _ _ _ _ (hst.put q3.le q2 dlt q1 hp) q3 h
                · cases h
            · rename_i f args hd
              obtain ⟨d, cap, e1, e2⟩ := defer_run (w := w) hst.g hst.t hf.co hd
              split at h
              · rename_i tm' hp
                cases hck : chkA P tm' H ce.chk <;> rw [hck] at h
                · cases h
                · simp only [cond_true] at h
                  rw [hf.dst] at hp
                  rw [e1, Oper.upon_defer]
                  have hst' : St G N env tm H nx ((f, args) :: ds) { a with defers := d :: a.defers } w := ⟨hst.g, hst.t, hst.n, hst.m, hst.s, d, a.defers, rfl, ⟨cap, e2⟩, hst.d⟩
                  exact hk _ _ _ _ _ _ _ (hst'.put (Le.refl _) hst.s dlt (undef_VR env) hp) (Tr.refl _ _ _ _ _) h
              · cases h

/-- operations in their order -/
theorem ops_sound {ih : Nat → AV → Hp → Nat → VRes} (hih : CallOK P G ih) {ops : Array Oper} {x : Nat} {tm1 : T AV} {H1 : Hp} {nx1 : Nat} {ds1 : DS} {Q : Exit → Act → World → Prop} {env0 : Env} {H0 : Hp} {nx0 : Nat} {w0 : World} :
    ∀ (l : List Oper) (ces : List CE) (i : Nat), (∀ j o, l[j]? = some o → ops[i + j]? = some o) → cOpers P G N ops l = some ces →
      ∀ env tm H nx ds a w, St G N env tm H nx ds a w → Tr G env0 H0 nx0 w0 env H nx w → opsA P G ih ces tm H nx ds = .ok x tm1 H1 nx1 ds1 →
      (∀ env' a' w', x = 0 → St G N env' tm1 H1 nx1 ds1 a' w' → Tr G env0 H0 nx0 w0 env' H1 nx1 w' → Q .normal a' w') → wpOps P ops Q (List.range' i l.length) a w := by
  intro l
  induction l with
  | nil =>
    intro ces i _ hc env tm H nx ds a w hst htr h hq
    cases hc
    cases h
    exact hq _ _ _ rfl hst htr
  | cons o l ihl =>
    intro ces i hl hc env tm H nx ds a w hst htr h hq
    simp only [cOpers] at hc
    split at hc
    · rename_i ce rest h1 h2
      cases hc
      rw [List.length_cons, List.range'_succ, wpOps_cons]
      refine op_sound hih (hl 0 o rfl) (fits h1).1 hst (k := opsA P G ih rest) h ?_
      intro env' tm' H' nx' ds' a' w' s1 s2 s3
      exact ihl rest (i + 1) (fun j o' e => by have := hl (j + 1) o' e; rwa [show i + (j + 1) = i + 1 + j by omega] at this) h2 env' tm' H' nx' ds' a' w' s1 (htr.trans s2) s3 hq
    · cases hc
end Go.Ev

namespace Go.Ev
variable {P : Program} {G N : Nat} {env : Env} {tm : T AV} {H : Hp} {nx : Nat} {ds : DS} {a : Act} {w : World}

def exOf : Nat → Exit
  | 0 => .normal
  | 1 => .ret
  | n + 2 => .exit n

/-- a loop, from its round on -/
def LoopWp (P : Program) (c : Code) (Q : Exit → Act → World → Prop) (a : Act) (w : World) : Prop :=
  ∀ (b : Frame) (k : List Item) (cs : List Frame), ∃ e a' w', Q e a' w' ∧ Arrives P (lone (b.at a (.code c :: .inLoop c :: k)) cs w) b k cs e a' w'

theorem loop_wp {c : Code} {Q : Exit → Act → World → Prop} (h : LoopWp P c Q a w) : (Code.loop c).wp P Q a w := by
  intro b k cs
  obtain ⟨e, a', w', hq, harr⟩ := h b k cs
  exact ⟨e, a', w', hq, .of_steps (.one step_loop) harr⟩

theorem loop_round {c : Code} {Q : Exit → Act → World → Prop} (h : c.wp P (Exit.then (LoopWp P c Q) Q) a w) : LoopWp P c Q a w := by
  intro b k cs
  obtain ⟨e, a₁, w₁, hq, harr⟩ := h b (.inLoop c :: k) cs
  cases e with
  | normal =>
    obtain ⟨e₂, a₂, w₂, hq₂, harr₂⟩ := hq b k cs
    exact ⟨e₂, a₂, w₂, hq₂, .of_steps (Steps.trans harr (.one step_inLoop)) harr₂⟩
  | exit id => exact ⟨_, a₁, w₁, hq, .pass (x := .inLoop c) rfl (fun _ _ => .inl (by simp)) harr⟩
  | goto l => exact ⟨_, a₁, w₁, hq, .pass (x := .inLoop c) rfl (fun _ _ => .inl (by simp)) harr⟩
  | ret => exact ⟨_, a₁, w₁, hq, .pass (x := .inLoop c) rfl (fun _ _ => .inl (by simp)) harr⟩
  | panic ch => exact ⟨_, a₁, w₁, hq, .pass (x := .inLoop c) rfl (fun _ _ => .inl (by simp)) harr⟩
  | outgrown => exact ⟨_, a₁, w₁, hq, .pass (x := .inLoop c) rfl (fun _ _ => .inl (by simp)) harr⟩

/-- code, a loop from its round on -/
def Wx (P : Program) : Code → (Exit → Act → World → Prop) → Act → World → Prop
  | .loop b => LoopWp P b
  | c => c.wp P

theorem wx_wp {c : Code} {Q : Exit → Act → World → Prop} (h : Wx P c Q a w) : c.wp P Q a w := by
  cases c <;> first | exact loop_wp h | exact h

def Ok1 (G N : Nat) (ihc : CC → T AV → Hp → Nat → DS → ER) (cc : CC) (W : (Exit → Act → World → Prop) → Act → World → Prop) : Prop :=
  ∀ env tm H nx ds a w x tm1 H1 nx1 ds1, St G N env tm H nx ds a w → ihc cc tm H nx ds = .ok x tm1 H1 nx1 ds1 →
    ∀ Q : Exit → Act → World → Prop, (∀ env' a' w', St G N env' tm1 H1 nx1 ds1 a' w' → Tr G env H nx w env' H1 nx1 w' → Q (exOf x) a' w') → W Q a w

def EvOK (P : Program) (G : Nat) (ihc : CC → T AV → Hp → Nat → DS → ER) : Prop := ∀ N c, Ok1 G N ihc (cCode P G N c) (Wx P c)

/-- regions that are drawn -/
def DrawOK (P : Program) (G : Nat) (ih : Nat → AV → Hp → Nat → VRes) : Prop :=
  ∀ N id ops l, cDraw P G N ops = some l → ∀ env tm H nx ds a w x tm1 H1 nx1 ds1, St G N env tm H nx ds a w → opsA P G ih l tm H nx ds = .ok x tm1 H1 nx1 ds1 →
    ∀ Q : Exit → Act → World → Prop, (∀ env' a' w', St G N env' tm1 H1 nx1 ds1 a' w' → Tr G env H nx w env' H1 nx1 w' → Q .normal a' w') → (Code.region id ops true).wp P Q a w

theorem opA_kont {ih : Nat → AV → Hp → Nat → VRes} {ce : CE} {k : Kont} {x : Nat} {tm1 : T AV} {H1 : Hp} {nx1 : Nat} {ds1 : DS} (h : opA P G ih ce tm H nx ds k = .ok x tm1 H1 nx1 ds1) :
    ∃ tm' H' nx' ds', k tm' H' nx' ds' = .ok x tm1 H1 nx1 ds1 := by
  unfold opA at h
  cases hg : holdsG tm ce.guard with
  | none => rw [hg] at h; cases h
  | some b =>
    rw [hg] at h
    cases b with
    | false => cases hp : putD tm ce.dst undefA <;> rw [hp] at h <;> first | (cases h; done) | exact ⟨_, _, _, _, h⟩
    | true =>
      cases hkd : ce.kd with
      | zero =>
        rw [hkd] at h
        cases hv : pureA P ce.co tm with
        | none => rw [hv] at h; cases h
        | some v => rw [hv] at h; cases hp : putD tm ce.dst v <;> simp only [hp] at h <;> first | (cases h; done) | exact ⟨_, _, _, _, h⟩
      | succ n =>
        rw [hkd] at h
        cases n with
        | zero =>
          cases hv : readA P ce.co tm H with
          | none => rw [hv] at h; cases h
          | some v => rw [hv] at h; cases hp : putD tm ce.dst v <;> simp only [hp] at h <;> first | (cases h; done) | exact ⟨_, _, _, _, h⟩
        | succ n =>
          cases n with
          | zero =>
            simp only at h
            split at h
            · cases h
            · split at h
              · exact ⟨_, _, _, _, h⟩
              · cases h
          | succ n =>
            simp only [cond_eq_ite] at h
            (repeat' split at h) <;> first | (cases h; done) | exact ⟨_, _, _, _, h⟩

theorem opsA_zero {ih : Nat → AV → Hp → Nat → VRes} : ∀ {l : List CE} {tm : T AV} {H : Hp} {nx : Nat} {ds : DS} {x : Nat} {tm1 : T AV} {H1 : Hp} {nx1 : Nat} {ds1 : DS}, opsA P G ih l tm H nx ds = .ok x tm1 H1 nx1 ds1 → x = 0 := by
  intro l
  induction l with
  | nil => intro tm H nx ds x tm1 H1 nx1 ds1 h; cases h; rfl
  | cons ce l ihl =>
    intro tm H nx ds x tm1 H1 nx1 ds1 h
    obtain ⟨tm', H', nx', ds', e⟩ := opA_kont (k := opsA P G ih l) h
    exact ihl e

theorem step_ok {ih : CC → T AV → Hp → Nat → DS → ER} {rd : Nat → AV → Hp → Nat → VRes} (hih : EvOK P G ih) (hcall : CallOK P G (callA P G ih rd)) (hdraw : DrawOK P G (callA P G ih rd)) : EvOK P G (stepA P G ih rd) := by
  intro N c
  induction c with
  | skip =>
    intro env tm H nx ds a w x tm1 H1 nx1 ds1 hst h Q hq
    cases h
    exact wp_skip (hq _ _ _ hst (Tr.refl _ _ _ _ _))
  | label l =>
    intro env tm H nx ds a w x tm1 H1 nx1 ds1 hst h Q hq
    cases h
    exact wp_label (hq _ _ _ hst (Tr.refl _ _ _ _ _))
  | ret =>
    intro env tm H nx ds a w x tm1 H1 nx1 ds1 hst h Q hq
    cases h
    exact wp_ret (hq _ _ _ hst (Tr.refl _ _ _ _ _))
  | exit id =>
    intro env tm H nx ds a w x tm1 H1 nx1 ds1 hst h Q hq
    cases h
    exact wp_exit (hq _ _ _ hst (Tr.refl _ _ _ _ _))
  | seq c d =>
    intro env tm H nx ds a w x tm1 H1 nx1 ds1 hst h Q hq
    simp only [cCode, stepA] at h
    split at h
    · rename_i y tm2 H2 nx2 ds2 e1
      refine wp_seq (wx_wp (hih N c _ _ _ _ _ _ _ _ _ _ _ _ hst e1 _ ?_))
      intro env' a' w' s1 s2
      split at h
      · exact wx_wp (hih N d _ _ _ _ _ _ _ _ _ _ _ _ s1 h _ (fun env'' a'' w'' t1 t2 => hq _ _ _ t1 (s2.trans t2)))
      · rename_i y
        cases h
        have := hq _ _ _ s1 s2
        cases y <;> exact this
    · cases h
  | cond cnd c d =>
    intro env tm H nx ds a w x tm1 H1 nx1 ds1 hst h Q hq
    simp only [cCode] at h
    split at h
    · rename_i c' hc'
      simp only [stepA] at h
      split at h
      · rename_i t e1
        have r := opd_sound hst.g hst.t hc' e1
        simp only [VR] at r
        refine wp_cond r ?_
        split at h
        · exact wx_wp (hih N c _ _ _ _ _ _ _ _ _ _ _ _ hst h _ hq)
        · exact wx_wp (hih N d _ _ _ _ _ _ _ _ _ _ _ _ hst h _ hq)
      · cases h
    · cases h
  | block id b =>
    intro env tm H nx ds a w x tm1 H1 nx1 ds1 hst h Q hq
    simp only [cCode, stepA] at h
    split at h
    · rename_i y tm2 H2 nx2 ds2 e1
      refine wp_block (wx_wp (hih N b _ _ _ _ _ _ _ _ _ _ _ _ hst e1 _ ?_))
      intro env' a' w' s1 s2
      cases hb : Nat.beq y (Nat.add id 2) <;> rw [hb] at h
      · cases h
        have hne : x ≠ id + 2 := by intro e; rw [e] at hb; simp at hb
        have := hq _ _ _ s1 s2
        clear hb e1
        match x, this, hne with
        | 0, this, _ => exact this
        | 1, this, _ => exact this
        | n + 2, this, hne =>
          have hn : n ≠ id := by omega
          show Exit.inBlock id Q (.exit n) a' w'
          simp only [Exit.inBlock, hn, if_false]
          exact this
      · cases h
        have he : y = id + 2 := Nat.eq_of_beq_eq_true hb
        subst he
        show Exit.inBlock id Q (.exit id) a' w'
        simp only [Exit.inBlock, if_true]
        exact hq _ _ _ s1 s2
    · cases h
  | loop b =>
    intro env tm H nx ds a w x tm1 H1 nx1 ds1 hst h Q hq
    simp only [cCode, stepA] at h
    split at h
    · rename_i y tm2 H2 nx2 ds2 e1
      refine loop_round (wx_wp (hih N b _ _ _ _ _ _ _ _ _ _ _ _ hst e1 _ ?_))
      intro env' a' w' s1 s2
      split at h
      · exact hih N (.loop b) _ _ _ _ _ _ _ _ _ _ _ _ s1 h _ (fun env'' a'' w'' t1 t2 => hq _ _ _ t1 (s2.trans t2))
      · rename_i y
        cases h
        have := hq _ _ _ s1 s2
        cases y <;> exact this
    · cases h
  | scope b ihb =>
    intro env tm H nx ds a w x tm1 H1 nx1 ds1 hst h Q hq
    refine wp_scope_straight (wx_wp (ihb _ _ _ _ _ _ _ _ _ _ _ _ hst h _ ?_))
    intro env' a' w' s1 s2
    have := hq _ _ _ s1 s2
    match x, this with
    | 0, this => exact this
    | 1, this => exact this
    | n + 2, this => exact this
  | region id ops draw =>
    intro env tm H nx ds a w x tm1 H1 nx1 ds1 hst h Q hq
    cases draw with
    | true =>
      simp only [cCode, cond_true] at h
      split at h
      · rename_i l hl
        have hx := opsA_zero (P := P) (G := G) h
        subst hx
        exact hdraw N id ops l hl _ _ _ _ _ _ _ _ _ _ _ _ hst h Q hq
      · cases h
    | false =>
      simp only [cCode, cond_false] at h
      split at h
      · rename_i l hl
        have := ops_sound (env0 := env) (H0 := H) (nx0 := nx) (w0 := w) (Q := Q) hcall ops.toList l 0 (fun j o e => by simpa using e) hl env tm H nx ds a w hst (Tr.refl _ _ _ _ _) h (fun env' a' w' hx s1 s2 => by subst hx; exact hq _ _ _ s1 s2)
        refine wp_region ?_
        rw [List.range_eq_range']
        simpa using this
      · cases h
  | goto l => intro env tm H nx ds a w x tm1 H1 nx1 ds1 hst h; cases h
  | rangeFunc f p c d => intro env tm H nx ds a w x tm1 H1 nx1 ds1 hst h; cases h
  | refuse why => intro env tm H nx ds a w x tm1 H1 nx1 ds1 hst h; cases h
end Go.Ev

namespace Go.Ev
variable {P : Program} {G N : Nat} {env : Env} {tm : T AV} {H : Hp} {nx : Nat} {ds : DS} {a : Act} {w : World}

theorem VL.nth_lt {x : AV} : ∀ {l : List Value} {i : Nat}, VL env x l → i < l.length → ∃ v, x.nth i = some v := by
  induction x with
  | cons a b _ ihb =>
    rintro l i ⟨x, xs, rfl, hx, h⟩ hi
    cases i with
    | zero => exact ⟨a, rfl⟩
    | succ i => simp only [AV.nth]; exact ihb h (by simpa using hi)
  | nil => rintro l i rfl hi; simp at hi
  | _ => intro l i h; exact h.elim

theorem init_TR {args : AV} {xs : Array Value} (hv : VL env args xs.toList) (h : initT N args = some tm) :
    TR env tm (xs ++ Array.replicate (N - xs.size) undef) ∧ (xs ++ Array.replicate (N - xs.size) undef).size = N ∧ ∀ d, d < N → ∃ v, tm.get d = some v := by
  have hlen : args.len = xs.size := by simpa using hv.len
  unfold initT at h
  cases hb : Nat.ble args.len N <;> rw [hb] at h
  · cases h
  have hN : xs.size ≤ N := by rw [← hlen]; exact Nat.le_of_ble_eq_true hb
  refine ⟨?_, by simp; omega, fun d hd => ?_⟩
  rotate_left
  · rw [putCells_get hv.isRow h d]
    split
    · rename_i hlt
      have hd' : d - 0 < xs.toList.length := by simp; omega
      exact hv.nth_lt hd'
    · exact ⟨_, T.get_rep_lt _ _ _ _ (Nat.le_refl _) hd⟩
  intro i v hi
  rw [putCells_get hv.isRow h i] at hi
  split at hi
  · obtain ⟨c, h1, h2⟩ := hv.nth hi
    have hlt : i < xs.size := by omega
    refine ⟨c, ?_, h2⟩
    rw [Array.getElem?_append_left hlt]
    simpa using h1
  · rename_i hn
    obtain ⟨rfl, hlt⟩ := T.get_rep _ _ _ _ _ hi
    refine ⟨undef, ?_, undef_VR env⟩
    have hge : xs.size ≤ i := by omega
    rw [Array.getElem?_append_right hge, Array.getElem?_replicate, if_pos (by omega)]

def resF (tmps : Array Value) : ResultVar → Sem Value
  | .tmp t => pure (tmps.getD t undef)
  | .cell a t => do loadVar t (← asAddr (tmps.getD a undef))

theorem res_list (ht : TR env tm a.tmps) (hs : SR env H nx w) : ∀ (l : List ResultVar) (r : List CRes) (v : AV), cRes P l = some r → resA tm H r = some v →
    ∃ vs : List Value, (l.mapM (resF a.tmps)).run P w = .ok vs w ∧ VL env v vs := by
  intro l
  induction l with
  | nil => intro r v h1 h2; cases h1; cases h2; exact ⟨[], by simp, rfl⟩
  | cons q l ih =>
    intro r v h1 h2
    cases q with
    | tmp i =>
      simp only [cRes] at h1
      split at h1
      · rename_i r' e1
        cases h1
        simp only [resA] at h2
        split at h2
        · rename_i u e2
          split at h2
          · rename_i m e3
            cases h2
            obtain ⟨vs, q1, q2⟩ := ih r' m e1 e3
            obtain ⟨x, q3, q4⟩ := ht _ _ e2
            refine ⟨x :: vs, ?_, x, vs, rfl, q4, q2⟩
            have : a.tmps.getD i undef = x := by simp [Array.getD_eq_getD_getElem?, q3]
            simp [List.mapM_cons, Sem.run_bind, resF, q1, this]
          · cases h2
        · cases h2
      · cases h1
    | cell i t =>
      simp only [cRes] at h1
      split at h1
      · rename_i n r' g1 g2 e1
        cases h1
        simp only [resA] at h2
        split at h2
        · rename_i id off e2
          split at h2
          · rename_i u e4
            split at h2
            · rename_i m e3
              cases h2
              split at e4
              · rename_i l' e5
                cases e4
                obtain ⟨vs, q1, q2⟩ := ih r' m e1 e3
                obtain ⟨x, q3, L, q4, rfl⟩ := ht _ _ e2
                obtain ⟨xs, q5, q6⟩ := loadCells_VL (P := P) hs q4 e5
                refine ⟨.agg xs :: vs, ?_, _, vs, rfl, ⟨xs, rfl, q6⟩, q2⟩
                have : a.tmps.getD i undef = .pointer (some ⟨L.b, L.base + off, none⟩) := by simp [Array.getD_eq_getD_getElem?, q3]
                simp [List.mapM_cons, Sem.run_bind, resF, q1, this, asAddr, loadVar, isAgg_run g1, sizeOf_run g2, q5]
              · cases e4
            · cases h2
          · cases h2
        · cases h2
      · rename_i r' g1 e1
        cases h1
        simp only [resA] at h2
        split at h2
        · rename_i id off e2
          split at h2
          · rename_i u e4
            split at h2
            · rename_i m e3
              cases h2
              split at e4
              · rename_i c k sz e hq
                obtain ⟨vs, q1, q2⟩ := ih r' m e1 e3
                obtain ⟨x, q3, L, q4, rfl⟩ := ht _ _ e2
                obtain ⟨arr, fr, h1, h2, h3, h4, h5, h6⟩ := hs.cells q4 hq
                obtain ⟨_, y, hy, ry⟩ := h5 _ _ e4
                refine ⟨y :: vs, ?_, y, vs, rfl, ry, q2⟩
                have : a.tmps.getD i undef = .pointer (some ⟨L.b, L.base + off, none⟩) := by simp [Array.getD_eq_getD_getElem?, q3]
                have hc : w.cell? ⟨L.b, L.base + off, none⟩ = some y := by rw [cell_at h1]; exact hy
                simp [List.mapM_cons, Sem.run_bind, resF, q1, this, asAddr, loadVar, isAgg_run g1, hc]
              · cases e4
            · cases h2
          · cases h2
        · cases h2
      · cases h1

theorem res_sound (ht : TR env tm a.tmps) (hs : SR env H nx w) {fn : Func} {r : List CRes} {v : AV} (h1 : cRes P fn.results.toList = some r) (h2 : resA tm H r = some v) :
    ∃ c, (results fn a.tmps).run P w = .ok c w ∧ VR env (resOf v) c := by
  obtain ⟨vs, q1, q2⟩ := res_list ht hs _ _ _ h1 h2
  have e : (fn.results.mapM (resF a.tmps)).run P w = .ok vs.toArray w := by
    rw [Array.mapM_eq_mapM_toList]
    simp [Sem.run_map, q1]
  have e' : (results fn a.tmps).run P w = .ok (if h : vs.toArray.size = 1 then vs.toArray[0] else .tuple vs.toArray) w := by
    have : results fn a.tmps = (fn.results.mapM (resF a.tmps) >>= fun vs => pure (if h : vs.size = 1 then vs[0] else .tuple vs)) := rfl
    rw [this, Sem.run_bind, e]
    rfl
  refine ⟨_, e', ?_⟩
  cases v with
  | nil => cases q2; exact ⟨#[], rfl, rfl⟩
  | cons x t =>
    obtain ⟨c, cs, rfl, r1, r2⟩ := q2
    cases t with
    | nil => cases r2; exact r1
    | cons y u =>
      obtain ⟨c', cs', rfl, r3, r4⟩ := r2
      simp only [resOf]
      rw [dif_neg (by simp)]
      exact ⟨_, rfl, c, _, rfl, r1, c', cs', rfl, r3, r4⟩
    | _ => exact absurd r2 (by simp [VL])
  | _ => exact absurd q2 (by simp [VL])

/-- two worlds alike but for what was drawn -/
def Like (w w' : World) : Prop := w'.heap = w.heap ∧ w'.os = w.os ∧ w'.tape = w.tape ∧ w'.output = w.output

theorem SR.like (h : SR env H nx w) {w' : World} (hl : Like w w') : SR env H nx w' ∧ Tr G env H nx w env H nx w' := by
  obtain ⟨e1, e2, e3, e4⟩ := hl
  refine ⟨⟨?_, ?_, h.inj, h.top⟩, ⟨Le.refl _, Nat.le_refl _, fun id L e => .inl e, fun _ _ _ => rfl, by rw [e1]; exact Nat.le_refl _, fun b _ _ => by rw [e1], e2, e3, e4⟩⟩
  · intro id L o q1 q2; rw [e1]; exact h.obj id L o q1 q2
  · intro id L q1; rw [e1]; exact h.bnd id L q1

/-- what the deferred function does on a plain way out: nothing -/
def RfOK (P : Program) (rf : Nat) : Prop :=
  ∀ xs w, (callFunc rf xs).run P w = .ok (.enter rf xs) w ∧ CallsD P rf xs .returning w fun e u w' => (∃ v, e = .returned v) ∧ settle u = .returning ∧ Like w w'

/-- what the program's functions without a body do -/
def ExtOK (P : Program) (G : Nat) : Prop :=
  ∀ f fn, P.funcs[f]? = some fn → fn.body = none → ∀ args H nx v H' nx', extA (extOf P fn) args H nx = .v v H' nx' →
    ∀ env w xs, GL G env → VL env args xs.toList → SR env H nx w → Done P G env H nx w f xs v H' nx'

theorem runD_same {rf : Nat} : ∀ {ds : DS} {v : AV} {H' : Hp} {nx' : Nat}, runD (rdA rf) ds H nx = .ok v H' nx' → H' = H ∧ nx' = nx
  | [], _, _, _, h => by cases h; exact ⟨rfl, rfl⟩
  | (f, as) :: ds, v, H', nx', h => by
    simp only [runD, rdA] at h
    cases hb : Nat.beq f rf <;> rw [hb] at h
    · cases h
    · exact runD_same (ds := ds) h

theorem leaves_ok {rf : Nat} (hrf : RfOK P rf) {fn : Func} {tmps : Array Value} {R : Ending → World → Prop} : ∀ (ds : DS) (l : List Deferred) (v : AV) (H' : Hp) (nx' : Nat) (w : World),
    DR ds l → runD (rdA rf) ds H nx = .ok v H' nx' → (∀ w', Like w w' → ∃ v, (results fn tmps).run P w' = .ok v w' ∧ R (.returned v) w') → Leaves P fn tmps R l .returning w := by
  intro ds
  induction ds with
  | nil => intro l v H' nx' w hd h hr; cases hd; exact hr w ⟨rfl, rfl, rfl, rfl⟩
  | cons d ds ih =>
    intro l v H' nx' w hd h hr
    obtain ⟨f, as⟩ := d
    obtain ⟨x, l', rfl, ⟨cap, hx⟩, hd'⟩ := hd
    simp only [runD, rdA] at h
    cases hb : Nat.beq f rf <;> rw [hb] at h
    · cases h
    · have hf : f = rf := Nat.eq_of_beq_eq_true hb
      subst hf
      simp only [cond_true] at h
      have key : ∀ w', Like w w' → Leaves P fn tmps R l' .returning w' := fun w' hl =>
        ih l' v H' nx' w' hd' h (fun w'' hl' => hr w'' ⟨hl'.1.trans hl.1, hl'.2.1.trans hl.2.1, hl'.2.2.1.trans hl.2.2.1, hl'.2.2.2.trans hl.2.2.2⟩)
      refine ⟨by simp, .func f, cap, f, x.args ++ cap, hx, ?_, ?_⟩
      · rw [hx]; exact (hrf (x.args ++ cap) w).1
      · refine (hrf (x.args ++ cap) w).2.mono ?_
        rintro e u w' ⟨⟨v, rfl⟩, q1, q2⟩
        simp only
        rw [q1]
        exact key w' q2

theorem call_ok {rf n : Nat} (hrf : RfOK P rf) (hext : ExtOK P G) (hname : ∀ (f : Nat) (fn : Func), P.funcs[f]? = some fn → fn.body.isSome = true → (fn.name == "runtime.NumGoroutine") = false)
    {ih : CC → T AV → Hp → Nat → DS → ER} (hih : EvOK P G ih) : CallOK P G (callA P G ih (rdA rf)) := by
  intro f args H nx v H' nx' h env w xs hg hv hs
  unfold callA cFn at h
  rw [cResY_eq, cCodeY_eq] at h
  cases hf : P.funcs[f]? with
  | none => rw [hf] at h; cases h
  | some fn =>
    rw [hf] at h
    simp only at h
    cases hb : fn.body with
    | none =>
      rw [hb] at h
      simp only at h
      split at h
      · rename_i a1 H1 nx1 e
        cases h
        exact hext f fn hf hb _ _ _ _ _ _ e env w xs hg hv hs
      · cases h
    | some c =>
      rw [hb] at h
      simp only at h
      cases hr : cRes P fn.results.toList with
      | none => rw [hr] at h; cases h
      | some r =>
        rw [hr] at h
        simp only at h
        split at h
        · cases h
        · rename_i tm hi
          split at h
          · cases h
          · rename_i x tm1 H1 nx1 ds1 he
            cases hx : Nat.ble x 1 <;> rw [hx] at h
            · cases h
            simp only [cond_true] at h
            split at h
            · cases h
            · rename_i u H2 nx2 hd
              split at h
              · rename_i l hl
                cases h
                left
                refine ⟨?_, ?_⟩
                · have hn := hname f fn hf (by rw [hb]; rfl)
                  simp only [callFunc, Sem.run_bind, run_program, Result.andThen_ok, hf, hn, hb, Option.isNone_some, Bool.false_eq_true, if_false, Sem.run_pure]
                · obtain ⟨i1, i2, i3⟩ := init_TR hv hi
                  have hst : St G fn.ntmps env tm H nx [] { tmps := xs ++ Array.replicate (fn.ntmps - xs.size) undef, defers := [] } w := ⟨hg, i1, i2, i3, hs, rfl⟩
                  refine calls_of_wp_defers hf hb (wx_wp (hih fn.ntmps c _ _ _ _ _ _ _ _ _ _ _ _ hst he _ ?_))
                  intro env' a' w' s1 s2
                  have key : Leaves P fn a'.tmps (fun e w' => ∃ c, e = .returned c ∧ Gives G env H nx w (resOf l) H' nx' c w') a'.defers .returning w' := by
                    obtain ⟨rfl, rfl⟩ := runD_same hd
                    refine leaves_ok hrf ds1 a'.defers u _ _ w' s1.d hd ?_
                    intro w'' hlike
                    obtain ⟨k1, k2⟩ := s1.s.like (G := G) hlike
                    obtain ⟨c, r1, r2⟩ := res_sound s1.t k1 hr hl
                    exact ⟨c, r1, c, rfl, env', r2, k1, s2.trans k2⟩
                  match x, hx with
                  | 0, _ => exact key
                  | 1, _ => exact key
                  | n + 2, hx => exact absurd (Nat.le_of_ble_eq_true hx) (by omega)
              · cases h
end Go.Ev

namespace Go.Ev
variable {P : Program} {G rf : Nat}

theorem ev_ok (hrf : RfOK P rf) (hext : ExtOK P G) (hname : ∀ (f : Nat) (fn : Func), P.funcs[f]? = some fn → fn.body.isSome = true → (fn.name == "runtime.NumGoroutine") = false)
    (hdraw : ∀ ih, CallOK P G ih → DrawOK P G ih) : ∀ n, EvOK P G (ev P G rf n) := by
  intro n
  induction n with
  | zero =>
    intro N c env tm H nx ds a w x tm1 H1 nx1 ds1 hst h
    cases h
  | succ n ih =>
    have hc := call_ok (n := n) hrf hext hname ih
    exact step_ok ih hc (hdraw _ hc)

theorem evCall_ok (hrf : RfOK P rf) (hext : ExtOK P G) (hname : ∀ (f : Nat) (fn : Func), P.funcs[f]? = some fn → fn.body.isSome = true → (fn.name == "runtime.NumGoroutine") = false)
    (hdraw : ∀ ih, CallOK P G ih → DrawOK P G ih) (n : Nat) : CallOK P G (fun f args H nx => evCall P G rf n f args H nx) :=
  call_ok (n := n) hrf hext hname (ev_ok hrf hext hname hdraw n)
end Go.Ev

namespace Go.Ev
variable {P : Program} {G : Nat} {env : Env} {tm : T AV} {a : Act} {H : Hp} {nx : Nat} {w : World}

/-! ### what the stand-ins are -/
theorem find_ibs {fn : Func} (h : fn.name = "internal/bytealg.IndexByteString") : Extern.find fn = some Extern.BytealgIndexByte.indexByte := by
  have g1 : Extern.allGenericRows.lookup "internal/bytealg.IndexByteString" = none := by kernel_rfl
  have g2 : Extern.allTypedRows.lookup "internal/bytealg.IndexByteString" = none := by kernel_rfl
  have g3 : Extern.allRows.lookup "internal/bytealg.IndexByteString" = some Extern.BytealgIndexByte.indexByte := by kernel_rfl
  simp [Extern.find, h, g1, g2, g3]
theorem find_ib {fn : Func} (h : fn.name = "internal/bytealg.IndexByte") : Extern.find fn = some Extern.BytealgIndexByte.indexByte := by
  have g1 : Extern.allGenericRows.lookup "internal/bytealg.IndexByte" = none := by kernel_rfl
  have g2 : Extern.allTypedRows.lookup "internal/bytealg.IndexByte" = none := by kernel_rfl
  have g3 : Extern.allRows.lookup "internal/bytealg.IndexByte" = some Extern.BytealgIndexByte.indexByte := by kernel_rfl
  simp [Extern.find, h, g1, g2, g3]
theorem find_cmp {fn : Func} (h : fn.name = "internal/bytealg.Compare") : Extern.find fn = some Extern.BytealgCompare.compare := by
  have g1 : Extern.allGenericRows.lookup "internal/bytealg.Compare" = none := by kernel_rfl
  have g2 : Extern.allTypedRows.lookup "internal/bytealg.Compare" = none := by kernel_rfl
  have g3 : Extern.allRows.lookup "internal/bytealg.Compare" = some Extern.BytealgCompare.compare := by kernel_rfl
  simp [Extern.find, h, g1, g2, g3]
theorem find_same {fn : Func} (h : fn.name = "internal/abi.NoEscape") : Extern.find fn = some Extern.AbiNoEscape.same := by
  have g1 : Extern.allGenericRows.lookup "internal/abi.NoEscape" = none := by kernel_rfl
  have g2 : Extern.allTypedRows.lookup "internal/abi.NoEscape" = none := by kernel_rfl
  have g3 : Extern.allRows.lookup "internal/abi.NoEscape" = some Extern.AbiNoEscape.same := by kernel_rfl
  simp [Extern.find, h, g1, g2, g3]
theorem find_mnz {fn : Func} (h : fn.name = "internal/bytealg.MakeNoZero") : Extern.find fn = some (Extern.BytealgMakeNoZero.makeNoZero fn.params fn.resultTypes) := by
  have g1 : Extern.allGenericRows.lookup "internal/bytealg.MakeNoZero" = none := by kernel_rfl
  have g2 : Extern.allTypedRows.lookup "internal/bytealg.MakeNoZero" = some Extern.BytealgMakeNoZero.makeNoZero := by kernel_rfl
  simp [Extern.find, h, g1, g2]

/-! ### bytes -/
theorem ofNat_toNat {n : Nat} (h : n < 256) : (n.toUInt8).toNat = n := by
  show n % 256 = n; omega
theorem push_data (s : ByteArray) (b : UInt8) : (s.push b).data.toList = s.data.toList ++ [b] := by
  cases s; simp [ByteArray.push]

theorem loadB_run {b e : Nat} {arr : Array Value} {fr : Nat × Nat} (h : w.heap[b]? = some (.cells arr e fr)) : ∀ (ns : List Nat) (p : Nat) (acc : ByteArray), (∀ n ∈ ns, n < 256) →
    (∀ i, i < ns.length → arr[p + i]? = some (.int .u8 ((ns[i]?.getD 0 : Nat) : Int))) →
    ∃ s, (Extern.Bytes.loadBytes ⟨b, p, none⟩ ns.length acc).run P w = .ok s w ∧ s.data.toList.map (·.toNat) = acc.data.toList.map (·.toNat) ++ ns
  | [], p, acc, _, _ => ⟨acc, rfl, by simp⟩
  | n :: ns, p, acc, hl, hc => by
    have h0 := hc 0 (by simp)
    simp only [Nat.add_zero, List.getElem?_cons_zero, Option.getD_some] at h0
    have hn : n < 256 := hl n (by simp)
    obtain ⟨s, q1, q2⟩ := loadB_run h ns (p + 1) (acc.push n.toUInt8) (fun k hk => hl k (by simp [hk])) (fun i hi => by
      have := hc (i + 1) (by simp only [List.length_cons]; omega)
      simp only [List.getElem?_cons_succ] at this
      rw [show p + 1 + i = p + (i + 1) by omega]; exact this)
    refine ⟨s, ?_, ?_⟩
    · simp only [List.length_cons, Extern.Bytes.loadBytes, Sem.run_bind, load_run h h0, Result.andThen_ok]
      have : (Addr.add ⟨b, p, none⟩ 1) = ⟨b, p + 1, none⟩ := rfl
      rw [this]
      simpa using q1
    · rw [q2, push_data]; simp [ofNat_toNat hn]

theorem bytesOfA_sound (hs : SR env H nx w) {x : AV} {l : List Nat} (h : bytesOfA H x = some l) {c : Value} (hx : VR env x c) :
    ∃ s : ByteArray, (Extern.Bytes.bytesOf c).run P w = .ok s w ∧ s.data.toList.map (·.toNat) = l := by
  unfold bytesOfA at h
  split at h
  · cases h
    obtain ⟨s, rfl, e⟩ := hx
    exact ⟨s, rfl, e⟩
  · split at h
    · rename_i l' m hsrc
      cases x with
      | nilSl =>
        cases hsrc; cases h
        simp only [VR] at hx; subst hx
        exact ⟨.empty, rfl, rfl⟩
      | slE =>
        cases hsrc; cases h
        obtain ⟨ad, k, rfl⟩ := hx
        exact ⟨.empty, rfl, rfl⟩
      | sl id off len cap =>
        simp only [srcA] at hsrc
        split at hsrc
        · rename_i l2 hl
          obtain ⟨e1, e2⟩ : l2 = l' ∧ len = m := by simp only [Option.some.injEq, Prod.mk.injEq] at hsrc; exact hsrc
          clear hsrc
          subst e1; subst e2
          obtain ⟨L, k, r0, rfl, _⟩ := hx
          obtain ⟨c', m', sz, e, arr, fr, q1, q2, q3, q4, q5⟩ := rdAt_sound hs r0 hl
          have hm1 : Nat.mul len 1 = len := Nat.mul_one len
          rw [hm1] at q3 q4 q5
          obtain ⟨f1, f2⟩ := natsA_sound h q4
          have hlen : len = l.length ∨ len = 0 := by
            rcases Nat.eq_zero_or_pos len with h0 | h0
            · exact .inr h0
            · left
              have := congrArg List.length f1
              simp only [List.length_map, List.length_take, List.length_drop, Array.length_toList] at this
              omega
          rcases hlen with hlen | hlen
          · subst hlen
            obtain ⟨s, g1, g2⟩ := loadB_run (P := P) q2 l (L.base + off) .empty f2 (fun i hi => by
              have e1 : ((arr.toList.drop (L.base + off)).take l.length)[i]? = some (.int .u8 ((l[i]?.getD 0 : Nat) : Int)) := by
                rw [f1]; simp [hi]
              rw [List.getElem?_take_of_lt hi, List.getElem?_drop] at e1
              simpa using e1)
            exact ⟨s, g1, by rw [g2]; rfl⟩
          · subst hlen
            have : l = [] := by
              have := congrArg List.length f1
              simp at this
              exact List.eq_nil_of_length_eq_zero (by omega)
            subst this
            exact ⟨.empty, rfl, rfl⟩
        · cases hsrc
      | str l2 => rename_i hn; exact absurd rfl (hn l2)
      | _ => cases hsrc
    · cases h

/-! ### what they tell -/
theorem idxL_eq {n : Nat} (hn : n < 256) : ∀ (l : List UInt8) (k : Nat), idxL n (l.map (·.toNat)) k = if Lib.indexByte l n.toUInt8 = -1 then -1 else Lib.indexByte l n.toUInt8 + k
  | [], k => rfl
  | b :: l, k => by
    have hge := Lib.indexByte_ge l n.toUInt8
    have hb : Nat.beq b.toNat n = (b == n.toUInt8) := by
      cases h : Nat.beq b.toNat n
      · symm; rw [beq_eq_false_iff_ne]
        intro e; subst e; rw [ofNat_toNat hn] at h; simp at h
      · have := Nat.eq_of_beq_eq_true h
        symm; rw [beq_iff_eq]
        apply UInt8.toNat_inj.1
        rw [ofNat_toNat hn, this]
    simp only [List.map_cons, idxL, hb]
    by_cases hq : (b == n.toUInt8) = true
    · have e : Lib.indexByte (b :: l) n.toUInt8 = 0 := by unfold Lib.indexByte; rw [if_pos hq]
      rw [hq, e]; simp
    · have hq' : (b == n.toUInt8) = false := by simpa using hq
      rw [hq', cond_false, idxL_eq hn l (Nat.succ k)]
      by_cases e : Lib.indexByte l n.toUInt8 = -1
      · have e2 : Lib.indexByte (b :: l) n.toUInt8 = -1 := by unfold Lib.indexByte; rw [if_neg hq]; simp [e]
        rw [e, e2]; simp
      · have e2 : Lib.indexByte (b :: l) n.toUInt8 = Lib.indexByte l n.toUInt8 + 1 := by
          have e' : ¬ (Lib.indexByte l n.toUInt8 == -1) = true := by simpa using e
          show (if b == n.toUInt8 then (0 : Int) else if Lib.indexByte l n.toUInt8 == -1 then -1 else Lib.indexByte l n.toUInt8 + 1) = _
          rw [if_neg hq, if_neg e']
        rw [e2]
        have e3 : ¬ Lib.indexByte l n.toUInt8 + 1 = -1 := by omega
        rw [if_neg e, if_neg e3]
        simp only [Nat.succ_eq_add_one, Int.natCast_add, Int.natCast_one]
        omega

def cmpU (x y : List UInt8) : Int :=
  match (List.range (min x.length y.length)).find? fun i => x.getD i 0 != y.getD i 0 with
  | some i => if x.getD i 0 < y.getD i 0 then -1 else 1
  | none => if x.length < y.length then -1 else if x.length > y.length then 1 else 0

theorem cmpU_eq : ∀ (x y : List UInt8), cmpU x y = cmpL (x.map (·.toNat)) (y.map (·.toNat))
  | [], [] => rfl
  | [], b :: y => by simp [cmpU, cmpL]
  | a :: x, [] => by simp [cmpU, cmpL]
  | a :: x, b :: y => by
    have ih := cmpU_eq x y
    simp only [List.map_cons, cmpL]
    rw [← ih]
    unfold cmpU
    have hm : min (a :: x).length (b :: y).length = min x.length y.length + 1 := by simp only [List.length_cons]; omega
    rw [hm, List.range_succ_eq_map, List.find?_cons]
    by_cases hab : a = b
    · subst hab
      have h1 : Nat.blt a.toNat a.toNat = false := by cases h : Nat.blt a.toNat a.toNat; rfl; have := Nat.le_of_ble_eq_true h; omega
      simp only [List.getD_cons_zero, bne_self_eq_false, h1, cond_false, List.find?_map]
      have e : ((fun i => (a :: x).getD i 0 != (a :: y).getD i 0) ∘ Nat.succ) = fun i => x.getD i 0 != y.getD i 0 := by funext i; simp [List.getD_cons_succ]
      rw [e]
      cases (List.range (min x.length y.length)).find? (fun i => x.getD i 0 != y.getD i 0) with
      | some i => simp [List.getD_cons_succ]
      | none => simp
    · have h1 : ((a :: x).getD 0 0 != (b :: y).getD 0 0) = true := by simpa using hab
      simp only [h1]
      have hne : a.toNat ≠ b.toNat := fun e => hab (UInt8.toNat_inj.1 e)
      simp only [List.getD_cons_zero]
      by_cases hlt : a.toNat < b.toNat
      · have : Nat.blt a.toNat b.toNat = true := Nat.ble_eq_true_of_le hlt
        have h2 : a < b := hlt
        simp [this, h2]
      · have h3 : Nat.blt a.toNat b.toNat = false := by cases h : Nat.blt a.toNat b.toNat; rfl; have := Nat.le_of_ble_eq_true h; omega
        have h4 : Nat.blt b.toNat a.toNat = true := Nat.ble_eq_true_of_le (show b.toNat + 1 ≤ a.toNat by omega)
        have h2 : ¬ a < b := hlt
        simp [h3, h4, h2]

theorem get_bang (s : ByteArray) (i : Nat) (h : i < s.size) : s[i]! = s.data.toList.getD i 0 := by
  obtain ⟨⟨l⟩⟩ := s
  have hi' : i < l.length := h
  have e1 : (ByteArray.mk l.toArray)[i]! = l[i] := getElem!_pos (ByteArray.mk l.toArray) i h
  rw [e1]; simp [List.getD, List.getElem?_eq_getElem hi']

theorem cmp_eq (s t : ByteArray) : Extern.BytealgCompare.cmp s t = cmpL (s.data.toList.map (·.toNat)) (t.data.toList.map (·.toNat)) := by
  rw [← cmpU_eq]
  unfold Extern.BytealgCompare.cmp cmpU
  have e1 : s.data.toList.length = s.size := by simp
  have e2 : t.data.toList.length = t.size := by simp
  rw [e1, e2]
  have e : (List.range (min s.size t.size)).find? (fun i => s[i]! != t[i]!) = (List.range (min s.size t.size)).find? (fun i => s.data.toList.getD i 0 != t.data.toList.getD i 0) := by
    apply Lib.find_congr
    intro i hi
    have := List.mem_range.1 hi
    rw [get_bang s i (by omega), get_bang t i (by omega)]
  rw [e]
  cases hf : (List.range (min s.size t.size)).find? (fun i => s.data.toList.getD i 0 != t.data.toList.getD i 0) with
  | none => rfl
  | some i =>
    have := List.mem_range.1 (List.mem_of_find?_eq_some hf)
    simp only
    rw [get_bang s i (by omega), get_bang t i (by omega)]

theorem digits_size : ∀ (n t : Nat) (acc : Array Value), (Extern.BytealgMakeNoZero.digits n t acc).size = acc.size + n ∧ ∀ i, acc.size ≤ i → i < acc.size + n → ∃ m, (Extern.BytealgMakeNoZero.digits n t acc)[i]? = some (.int .u8 m)
  | 0, t, acc => ⟨rfl, fun i h1 h2 => by omega⟩
  | n + 1, t, acc => by
    obtain ⟨h1, h2⟩ := digits_size n (t / 256) (acc.push (.int .u8 (Int.ofNat (t % 256))))
    simp only [Array.size_push] at h1 h2
    refine ⟨by simp only [Extern.BytealgMakeNoZero.digits]; rw [h1]; omega, fun i g1 g2 => ?_⟩
    simp only [Extern.BytealgMakeNoZero.digits]
    by_cases e : i = acc.size
    · subst e
      exact ⟨Int.ofNat (t % 256), (digits_keep n (t / 256) _ acc.size (by simp)).trans (by simp)⟩
    · exact h2 i (by omega) (by omega)
where digits_keep : ∀ (n t : Nat) (acc : Array Value) (i : Nat), i < acc.size → (Extern.BytealgMakeNoZero.digits n t acc)[i]? = acc[i]?
  | 0, _, _, _, _ => rfl
  | n + 1, t, acc, i, h => by
    simp only [Extern.BytealgMakeNoZero.digits]
    rw [digits_keep n (t / 256) _ i (by simp; omega), Array.getElem?_push, if_neg (by omega)]
end Go.Ev
