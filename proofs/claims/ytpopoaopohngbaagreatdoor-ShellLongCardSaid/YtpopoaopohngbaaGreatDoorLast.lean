/- A region that draws its order and whose last operation waits for all others: the others first, then the last one. No condition. -/
import Derived.Test.YtpopoaopohngbaaGreatDoorBase
import Derived.Deep.RegionHeld3
namespace Go.Lap

theorem anyMem {α : Type} {p : α → Bool} {xs : Array α} : xs.any p = true ↔ ∃ x ∈ xs, p x = true := by
  rw [Array.any_eq_true]
  constructor
  · rintro ⟨i, hi, h⟩
    exact ⟨xs[i], Array.getElem_mem hi, h⟩
  · rintro ⟨x, hx, h⟩
    obtain ⟨i, hi, rfl⟩ := Array.mem_iff_getElem.1 hx
    exact ⟨i, hi, h⟩

theorem allMem {α : Type} {p : α → Bool} {xs : Array α} : xs.all p = true ↔ ∀ x ∈ xs, p x = true := by
  rw [Array.all_eq_true]
  constructor
  · intro h x hx
    obtain ⟨i, hi, rfl⟩ := Array.mem_iff_getElem.1 hx
    exact h i hi
  · exact fun h i hi => h _ (Array.getElem_mem hi)

section
variable {P : Program} {Q : Exit → Act → World → Prop}

/-- What is asked behind the others: the last operation. -/
def LastQ (P : Program) (ops : Array Oper) (Q : Exit → Act → World → Prop) : Exit → Act → World → Prop
  | .normal, a, w => wpOp P ops Q (ops.size - 1) (fun a' w' => Q .normal a' w') a w
  | .exit i, a, w => Q (.exit i) a w
  | .goto l, a, w => Q (.goto l) a w
  | .ret, a, w => Q .ret a w
  | .panic c, a, w => Q (.panic c) a w
  | .outgrown, a, w => Q .outgrown a w

/-- All edges go back, and the guards; the last one waits for all. -/
def lastOk (ops : Array Oper) : Bool :=
  (List.range ops.size).all (fun j => (ops[j]?).any fun o => o.after.all (fun e => decide (e.on < j)) && (match o.guard with | none => true | some (g, _) => decide (g < j))) &&
  (List.range (ops.size - 1)).all (fun i => (ops[ops.size - 1]?).any fun o => o.after.any fun e => Region.binds .any e && (e.on == i || (ops[e.on]?).any fun o' => o'.after.any fun e' => Region.binds .any e' && e'.on == i))

theorem lastOk_edges {ops : Array Oper} (h : lastOk ops = true) {j : Nat} {o : Oper} (ho : ops[j]? = some o) : (∀ e ∈ o.after, e.on < j) ∧ ∀ g b, o.guard = some (g, b) → g < j := by
  unfold lastOk at h
  rw [Bool.and_eq_true] at h
  have h1 := h.1
  rw [List.all_eq_true] at h1
  have hj : j < ops.size := (Array.getElem?_eq_some_iff.1 ho).1
  have h2 := h1 j (List.mem_range.2 hj)
  rw [ho] at h2
  simp only [Option.any_some, Bool.and_eq_true] at h2
  refine ⟨fun e he => ?_, fun g b hg => ?_⟩
  · have := h2.1
    rw [allMem] at this
    exact of_decide_eq_true (this e he)
  · have := h2.2
    rw [hg] at this
    exact of_decide_eq_true this

theorem lastOk_waits {ops : Array Oper} (h : lastOk ops = true) {i : Nat} (hi : i < ops.size - 1) {o : Oper} (ho : ops[ops.size - 1]? = some o) :
    ∃ e ∈ o.after, Region.binds .any e = true ∧ (e.on = i ∨ ∃ o', ops[e.on]? = some o' ∧ ∃ e' ∈ o'.after, Region.binds .any e' = true ∧ e'.on = i) := by
  unfold lastOk at h
  rw [Bool.and_eq_true] at h
  have h1 := h.2
  rw [List.all_eq_true] at h1
  have h2 := h1 i (List.mem_range.2 hi)
  rw [ho] at h2
  simp only [Option.any_some] at h2
  rw [anyMem] at h2
  obtain ⟨e, he, h3⟩ := h2
  rw [Bool.and_eq_true, Bool.or_eq_true] at h3
  refine ⟨e, he, h3.1, ?_⟩
  rcases h3.2 with h4 | h4
  · exact Or.inl (by simpa using h4)
  · cases hq : ops[e.on]? with
    | none => rw [hq] at h4; simp at h4
    | some o' =>
      rw [hq] at h4
      simp only [Option.any_some] at h4
      rw [anyMem] at h4
      obtain ⟨e', he', h5⟩ := h4
      rw [Bool.and_eq_true] at h5
      exact Or.inr ⟨o', rfl, e', he', h5.1, by simpa using h5.2⟩

theorem pop_get {ops : Array Oper} {i : Nat} (h : i < ops.size - 1) : ops.pop[i]? = ops[i]? := by
  rw [Array.getElem?_pop, if_pos h]

theorem push_getD {listed : Array Bool} {i : Nat} (b d : Bool) (h : i < listed.size) : (listed.push b).getD i d = listed.getD i d := by
  simp [Array.getElem?_push, h, Nat.ne_of_lt h]

theorem push_getD_last {listed : Array Bool} (b d : Bool) : (listed.push b).getD listed.size d = b := by
  simp

theorem getD_any {listed : Array Bool} {i : Nat} (d d' : Bool) (h : i < listed.size) : listed.getD i d = listed.getD i d' := by
  simp [h]

theorem push_set {listed : Array Bool} {i : Nat} (b : Bool) (h : i < listed.size) : (listed.push b).setIfInBounds i true = (listed.setIfInBounds i true).push b := by
  apply Array.ext
  · simp
  · intro j h1 h2
    simp only [Array.size_setIfInBounds, Array.size_push] at h1
    rw [Array.getElem_setIfInBounds (by simpa using h1), Array.getElem_push, Array.getElem_push]
    by_cases hj : j < listed.size
    · simp only [Array.size_setIfInBounds, hj, dite_true]
      rw [Array.getElem_setIfInBounds hj]
    · simp only [Array.size_setIfInBounds, hj, dite_false]
      rw [if_neg (by omega)]

/-- What is listed has all listed that it waits for. -/
def Shutd (ops : Array Oper) (listed : Array Bool) : Prop := ∀ (j : Nat) (o : Oper), ops[j]? = some o → listed.getD j false = true → ∀ e ∈ o.after, Region.binds .any e = true → listed.getD e.on false = true

theorem Shutd.start (ops : Array Oper) (n : Nat) : Shutd ops (Array.replicate n false) := by
  intro j o _ h
  by_cases hj : j < n
  · simp [hj] at h
  · simp [hj] at h

theorem set_getD_true {listed : Array Bool} {i j : Nat} (h : listed.getD j false = true) : (listed.setIfInBounds i true).getD j false = true := by
  by_cases e : i = j
  · subst e
    have hl : i < listed.size := by
      rcases Nat.lt_or_ge i listed.size with x | x
      · exact x
      · simp [Array.getElem?_eq_none x] at h
    simp [hl]
  · rw [getD_set_ne false e]; exact h

theorem Shutd.set {ops : Array Oper} {listed : Array Bool} {i : Nat} (h : Shutd ops listed) (hr : ∀ o, ops[i]? = some o → ∀ e ∈ o.after, Region.binds .any e = true → listed.getD e.on false = true) : Shutd ops (listed.setIfInBounds i true) := by
  intro j o ho hl e he hb
  by_cases hij : i = j
  · subst hij
    exact set_getD_true (hr o ho e he hb)
  · rw [getD_set_ne false hij] at hl
    exact set_getD_true (h j o ho hl e he hb)

variable {ops : Array Oper}

theorem ready_pop {listed : Array Bool} (hok : lastOk ops = true) (hs : listed.size = ops.size - 1) {i : Nat} (hi : i < ops.size - 1) : i ∈ Region.ready .any ops (listed.push false) ↔ i ∈ Region.ready .any ops.pop listed := by
  rw [mem_ready, mem_ready, push_getD _ _ (by omega), pop_get hi]
  constructor
  · rintro ⟨h1, o, ho, h2⟩
    refine ⟨h1, o, ho, fun e he hb => ?_⟩
    have := (lastOk_edges hok ho).1 e he
    have h3 := h2 e he hb
    rw [push_getD _ _ (by omega)] at h3
    exact h3
  · rintro ⟨h1, o, ho, h2⟩
    refine ⟨h1, o, ho, fun e he hb => ?_⟩
    have := (lastOk_edges hok ho).1 e he
    rw [push_getD _ _ (by omega)]
    exact h2 e he hb

theorem ready_lt {listed : Array Bool} {i : Nat} (h : i ∈ Region.ready .any ops listed) : i < ops.size := by
  obtain ⟨_, o, ho, _⟩ := mem_ready.1 h
  exact (Array.getElem?_eq_some_iff.1 ho).1

/-- If none is ready all are listed. -/
theorem all_listed {listed : Array Bool} (hok : lastOk ops = true) (hs : listed.size = ops.size - 1) (hr : Region.ready .any ops.pop listed = []) : ∀ (k i : Nat), i < k → i < ops.size - 1 → listed.getD i false = true := by
  intro k
  induction k with
  | zero => intro i h; omega
  | succ k ih =>
    intro i _ hi
    cases hl : listed.getD i false with
    | true => rfl
    | false =>
      have hlt : i < ops.size := by omega
      have : i ∈ Region.ready .any ops.pop listed := by
        rw [mem_ready, pop_get hi]
        refine ⟨by rw [getD_any true false (by omega)]; exact hl, ops[i], Array.getElem?_eq_getElem hlt, fun e he _ => ?_⟩
        have := (lastOk_edges hok (Array.getElem?_eq_getElem hlt)).1 e he
        exact ih e.on (by omega) (by omega)
      rw [hr] at this
      cases this

theorem last_ready {listed : Array Bool} (hok : lastOk ops = true) (h0 : 0 < ops.size) (hs : listed.size = ops.size - 1) (hall : ∀ i, i < ops.size - 1 → listed.getD i false = true) : ops.size - 1 ∈ Region.ready .any ops (listed.push false) := by
  rw [mem_ready]
  have hlt : ops.size - 1 < ops.size := by omega
  refine ⟨by rw [← hs]; exact push_getD_last _ _, ops[ops.size - 1], Array.getElem?_eq_getElem hlt, fun e he _ => ?_⟩
  have := (lastOk_edges hok (Array.getElem?_eq_getElem hlt)).1 e he
  rw [push_getD _ _ (by omega)]
  exact hall e.on this

theorem wanted_pop (hok : lastOk ops = true) {i : Nat} {o : Oper} (hi : i < ops.size - 1) (ho : ops[i]? = some o) (tmps : Array Value) : Region.wanted o (yielded ops.pop tmps) = Region.wanted o (yielded ops tmps) := by
  unfold Region.wanted
  cases hg : o.guard with
  | none => rfl
  | some gb =>
    obtain ⟨g, b⟩ := gb
    have := (lastOk_edges hok ho).2 g b hg
    simp only [yielded]
    rw [pop_get (by omega)]

theorem letsOut_last (h : LetsOut (LastQ P ops Q)) : LetsOut Q := h

theorem wpOp_pop (hok : lastOk ops = true) {i : Nat} (hi : i < ops.size - 1) {K : Act → World → Prop} {a : Act} {w : World} (h : wpOp P ops.pop (LastQ P ops Q) i K a w) : wpOp P ops Q i K a w := by
  have hlt : i < ops.size := by omega
  have ho : ops[i]? = some ops[i] := Array.getElem?_eq_getElem hlt
  unfold wpOp at *
  rw [pop_get hi] at h
  simp only [ho] at h ⊢
  rw [wanted_pop hok hi ho] at h
  by_cases hw : Region.wanted ops[i] (yielded ops a.tmps) = true
  · rw [if_pos hw] at h ⊢
    rcases h with h | ⟨h, hl⟩
    · refine Or.inl ?_
      unfold Oper.wp at *
      generalize (execOp a.eval ops[i]).run P w = r at *
      cases r with
      | ok n w' =>
        cases n <;> simp only [Oper.upon] at h ⊢ <;>
          first
            | exact h
            | exact Calls.mono h (fun e w'' he => by cases e <;> exact he)
      | halt x w' => cases x <;> simp only [Oper.upon] at h ⊢ <;> exact h
    · exact Or.inr ⟨h, hl⟩
  · rw [if_neg hw] at h ⊢
    exact h

theorem wpAny_last (hok : lastOk ops = true) (h0 : 0 < ops.size) : ∀ (fuel : Nat) (listed : Array Bool) (a : Act) (w : World), listed.size = ops.size - 1 → Shutd ops listed → wpAny P .any ops.pop (LastQ P ops Q) fuel listed a w → wpAny P .any ops Q (fuel + 1) (listed.push false) a w := by
  intro fuel
  induction fuel with
  | zero =>
    intro listed a w hs hc H
    have hall := fun i hi => all_listed hok hs H.1 (i + 1) i (Nat.lt_succ_self i) hi
    refine ⟨fun hr => ?_, fun i hi => ?_⟩
    · have := last_ready hok h0 hs hall
      rw [hr] at this
      cases this
    · have hlt := ready_lt hi
      by_cases hn : i < ops.size - 1
      · have := (ready_pop hok hs hn).1 hi
        rw [H.1] at this
        cases this
      · obtain rfl : i = ops.size - 1 := by omega
        refine wpOp_mono (fun a' w' hq => ?_) H.2
        exact ⟨(by
          rw [List.eq_nil_iff_forall_not_mem]
          intro j hj
          have h1 := ready_lt hj
          have h2 := (mem_ready.1 hj).1
          by_cases hjn : j = ops.size - 1
          · subst hjn
            rw [← hs] at h2
            simp at h2
          · rw [getD_set_ne true (by omega), push_getD _ _ (by omega), getD_any true false (by omega), hall j (by omega)] at h2
            cases h2), hq⟩
  | succ f ih =>
    intro listed a w hs hc H
    refine ⟨fun hr => ?_, fun i hi => ?_⟩
    · have hr' : Region.ready .any ops.pop listed = [] := by
        rw [List.eq_nil_iff_forall_not_mem]
        intro j hj
        have h1 := ready_lt hj
        rw [Array.size_pop] at h1
        have := (ready_pop hok hs h1).2 hj
        rw [hr] at this
        cases this
      have hall := fun i hi => all_listed hok hs hr' (i + 1) i (Nat.lt_succ_self i) hi
      have := last_ready hok h0 hs hall
      rw [hr] at this
      cases this
    · have hlt := ready_lt hi
      by_cases hn : i < ops.size - 1
      · have hi' := (ready_pop hok hs hn).1 hi
        refine wpOp_mono (fun a' w' hq => ?_) (wpOp_pop hok hn (H.2 i hi'))
        rw [push_set _ (by omega)]
        refine ih _ a' w' (by simpa using hs) (hc.set (fun o ho e he hb => ?_)) hq
        obtain ⟨_, o', ho', h2⟩ := mem_ready.1 hi'
        rw [pop_get hn, ho] at ho'
        injection ho' with ho'
        subst ho'
        exact h2 e he hb
      · obtain rfl : i = ops.size - 1 := by omega
        obtain ⟨_, o, ho, h2⟩ := mem_ready.1 hi
        have hall : ∀ j, j < ops.size - 1 → listed.getD j false = true := by
          intro j hj
          obtain ⟨e, he, hb, h3⟩ := lastOk_waits hok hj ho
          have h4 := h2 e he hb
          have h5 := (lastOk_edges hok ho).1 e he
          rw [push_getD _ _ (by omega)] at h4
          rcases h3 with rfl | ⟨o', ho', e', he', hb', rfl⟩
          · exact h4
          · exact hc e.on o' ho' h4 e' he' hb'
        have hr' : Region.ready .any ops.pop listed = [] := by
          rw [List.eq_nil_iff_forall_not_mem]
          intro j hj
          have h1 := ready_lt hj
          rw [Array.size_pop] at h1
          have h2 := (mem_ready.1 hj).1
          rw [getD_any true false (by omega), hall j h1] at h2
          cases h2
        refine wpOp_mono (fun a' w' hq => ?_) (H.1 hr')
        refine ⟨fun _ => hq, fun j hj => ?_⟩
        have h1 := ready_lt hj
        have h2 := (mem_ready.1 hj).1
        by_cases hjn : j = ops.size - 1
        · subst hjn
          rw [← hs] at h2
          simp at h2
        · rw [getD_set_ne true (by omega), push_getD _ _ (by omega), getD_any true false (by omega), hall j (by omega)] at h2
          cases h2

/-- The beginning: S is held till all but the last one have come up. -/
theorem wp_region_last {S : World → Prop} {id : Nat} {a : Act} {w : World} (hm : P.follows .mixedOrders = true) (hok : lastOk ops = true) (h0 : 0 < ops.size) (hS : S w.drew)
    (h : S w.drew → wpAnyH P .any ops.pop (LastQ P ops Q) S (ops.size - 1) (Array.replicate (ops.size - 1) false) a w.drew) : (Code.region id ops true).wp P Q a w := by
  refine wp_region_any hm ?_
  have h1 := wpAny_last hok h0 (ops.size - 1) (Array.replicate (ops.size - 1) false) a w.drew (by simp) (Shutd.start _ _) (wpAny_of_held _ _ _ _ (h hS))
  have e : (Array.replicate (ops.size - 1) false).push false = Array.replicate ops.size false := by
    rw [← Array.replicate_succ]
    congr 1
    omega
  rw [e, show ops.size - 1 + 1 = ops.size by omega] at h1
  exact h1

theorem last_panic {c : List PanicEntry} {a a' : Act} {w : World} (hq : Q (.panic c) a' w → Q (.panic c) a w) (h : LastQ P ops Q (.panic c) a' w) : LastQ P ops Q (.panic c) a w := hq h

/-- The last one. -/
theorem last_step {o : Oper} {a : Act} {w : World} (ho : ops[ops.size - 1]? = some o)
    (h : ∀ K' : Act → World → Prop, Shut (∀ a w, Q .normal a w → K' a w) → if Region.wanted o (yielded ops a.tmps) = true then Oper.wp P o a w K' Q else K' (a.put o.dst undef) w) : LastQ P ops Q .normal a w := by
  have h1 := h (fun a' w' => Q .normal a' w') (fun _ _ x => x)
  show wpOp P ops Q (ops.size - 1) (fun a' w' => Q .normal a' w') a w
  unfold wpOp
  simp only [ho]
  by_cases hw : Region.wanted o (yielded ops a.tmps) = true
  · rw [if_pos hw] at h1 ⊢; exact Or.inl h1
  · rw [if_neg hw] at h1 ⊢; exact h1

/-- What is asked behind a region, out of sight while it is walked. -/
theorem hideQ {c : Code} {a : Act} {w : World} (h : ∀ Q' : Exit → Act → World → Prop, Shut (∀ e a w, Q e a w → Q' e a w) → c.wp P Q' a w) : c.wp P Q a w := h Q (fun _ _ _ x => x)

end
end Go.Lap
