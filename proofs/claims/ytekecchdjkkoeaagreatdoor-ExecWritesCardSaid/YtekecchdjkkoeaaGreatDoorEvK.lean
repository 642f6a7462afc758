/- A part of the proof of this seat's statements. No condition. -/
import Derived.Test.YtekecchdjkkoeaaGreatDoorEv5
import Derived.Test.YtekecchdjkkoeaaGreatDoorEvS
set_option linter.unusedVariables false
set_option linter.unusedSimpArgs false
namespace Go.Ev
variable {P : Program} {G rf : Nat}
theorem hpT_get : ∀ {l : List (Nat × TO)} {H : Hp}, hpT l = some H → ∀ id o, H.get id = some o → ∃ t, (id, t) ∈ l ∧ o = toAO t
  | [], H, h, id, o, ho => by cases h; simp at ho
  | (i, t) :: l, H, h, id, o, ho => by
    simp only [hpT] at h
    split at h
    · rename_i H1 h1
      rw [T.get_put h] at ho
      split at ho
      · rename_i e; cases ho; subst e; exact ⟨t, List.mem_cons_self .., rfl⟩
      · obtain ⟨t', m, e⟩ := hpT_get h1 id o ho
        exact ⟨t', List.mem_cons_of_mem _ m, e⟩
    · cases h
theorem subL_get : ∀ {l : AV} {c : T AV} {i : Nat}, subL l c i = true → ∀ j v, l.nth j = some v → c.get (i + j) = some v := by
  intro l
  induction l with
  | cons h t _ ih =>
    intro c i hs j v hv
    simp only [subL] at hs
    split at hs
    · rename_i u hu
      simp only [Bool.and_eq_true] at hs
      cases j with
      | zero =>
        simp only [AV.nth, Option.some.injEq] at hv
        subst hv
        rw [Nat.add_zero, hu, sameAV_eq hs.1]
      | succ j =>
        simp only [AV.nth] at hv
        have := ih hs.2 j v hv
        rw [show i + (j + 1) = i.succ + j by omega]
        exact this
    · cases hs
  | nil => intro c i hs j v hv; cases j <;> cases hv
  | _ => intro c i hs j v hv; cases hs
theorem sameEs_eq : ∀ {l m : List Ent}, sameEs l m = true → l = m
  | [], [], _ => rfl
  | a :: l, b :: m, h => by
    simp only [sameEs, Bool.and_eq_true] at h
    obtain ⟨h1, h2, h3, h4⟩ := h
    have e1 := sameAV_eq h1
    have e2 := sameAV_eq h2
    have e3 := Nat.eq_of_beq_eq_true h3
    have e4 := sameEs_eq h4
    obtain ⟨ak, av, ab⟩ := a
    obtain ⟨bk, bv, bb⟩ := b
    subst e4
    simp only at e1 e2 e3
    rw [e1, e2, e3]
  | [], _ :: _, h => by cases h
  | _ :: _, [], h => by cases h
theorem rowD_get {l : AV} (hl : l.isRow = true) (i : Nat) (v : AV) (h : (rowD l).get i = some v) : i < l.len ∧ l.nth i = some v := by
  unfold rowD at h
  cases e : rowOf l with
  | none => rw [e] at h; simp at h
  | some c =>
    rw [e] at h
    have h : c.get i = some v := h
    rw [putCells_get hl e i] at h
    split at h
    · rename_i hi; exact ⟨by omega, by simpa using h⟩
    · simp at h
theorem rowQ_row : ∀ {l : AV}, rowQ l = true → l.isRow = true := by
  intro l
  induction l with
  | cons h t _ ih => intro h; exact ih h
  | nil => intro _; rfl
  | _ => intro h; cases h
theorem subT_OR {t : TO} {o : AO} (h : subT t (some o) = true) {env : Env} {L : Loc} {ob : Obj} (ho : OR env L o ob) : OR env L (toAO t) ob := by
  cases t with
  | cells n sz e l =>
    cases o with
    | cells c n' sz' e' =>
      simp only [subT, Bool.and_eq_true] at h
      obtain ⟨h1, h2, h3, h4, h5, h6⟩ := h
      have e1 := Nat.eq_of_beq_eq_true h1
      have e2 := Nat.eq_of_beq_eq_true h2
      have e3 := Nat.eq_of_beq_eq_true h3
      subst e1; subst e2; subst e3
      obtain ⟨arr, fr, q1, q2, q3, q4, q5, q6⟩ := ho
      refine ⟨arr, fr, q1, q2, q3, q4, fun i v hv => ?_, q6⟩
      obtain ⟨k1, k2⟩ := rowD_get (rowQ_row h5) i v hv
      have := subL_get h6 i v k2
      rw [Nat.zero_add] at this
      exact q5 i v this
    | _ => cases h
  | map es ck =>
    cases o with
    | map es' ck' =>
      simp only [subT, Bool.and_eq_true] at h
      have e1 := Nat.eq_of_beq_eq_true h.1
      have e2 := sameEs_eq h.2
      subst e1; subst e2
      exact ho
    | _ => cases h
theorem subT_live {t : TO} {o : AO} (h : subT t (some o) = true) : o.live = true := by
  cases t <;> cases o <;> first | rfl | cases h

theorem tellA_ok {g n e a nk : Nat} {c0 : T AV} {H0 Hk : Hp} {args0 v : AV} {tl : List (Nat × TO)} (st : Go.Ev.Start G g n e c0 H0) {ih tp : Nat → AV → Hp → Nat → VRes} (hih : CallOK P G ih) (htp : CallOK P G tp)
    (hH : hpT tl = some Hk) (ht : tellOK tl nk v (tp a args0 H0 G) = true) : CallOK P G (tellA G g n e c0 a args0 v Hk nk ih) := by
  intro f args H nx v1 H' nx' h env w xs hg hv hs
  unfold tellA at h
  cases hb : (Nat.beq f a && (sameAV 20 args args0 && (Nat.beq nx G && heapOK g n e c0 H))) with
  | false => rw [hb] at h; exact hih f args H nx v1 H' nx' h env w xs hg hv hs
  | true =>
    rw [hb] at h
    cases h
    simp only [Bool.and_eq_true] at hb
    obtain ⟨h1, h2, h3, h4⟩ := hb
    have e1 := Nat.eq_of_beq_eq_true h1
    have e2 := sameAV_eq h2
    have e3 := Nat.eq_of_beq_eq_true h3
    subst e1; subst e2; subst e3
    have hs0 := start_of st h4 hg hs
    cases hr : tp f args H0 nx with
    | no => rw [hr] at ht; cases ht
    | ok v2 H2 nx2 =>
      rw [hr] at ht
      simp only [tellOK, Bool.and_eq_true] at ht
      obtain ⟨t1, t2, t3⟩ := ht
      have f1 := sameAV_eq t1
      have f2 := Nat.eq_of_beq_eq_true t2
      subst f1; subst f2
      have key : ∀ id o, Hk.get id = some o → id < nx2 ∧ ∃ o2, H2.get id = some o2 ∧ o2.live = true ∧ ∀ env L ob, OR env L o2 ob → OR env L o ob := by
        intro id o ho
        obtain ⟨t, m, rfl⟩ := hpT_get hH id o ho
        have q := List.all_eq_true.1 t3 (id, t) m
        simp only [Bool.and_eq_true] at q
        cases e2 : H2.get id with
        | none => rw [e2] at q; cases t <;> cases q.2
        | some o2 =>
          rw [e2] at q
          exact ⟨Nat.le_of_ble_eq_true q.1, o2, rfl, subT_live q.2, fun env L ob h => subT_OR q.2 h⟩
      have fin : ∀ (c : Value) (w' : World), Gives nx env H0 nx w v H2 nx2 c w' → Gives nx env H nx w v Hk nx2 c w' := by
        rintro c w' ⟨env', q1, q2, q3⟩
        refine ⟨env', q1, ⟨fun id L o hL ho => ?_, q2.bnd, fun id id' L L' o o' hL hL' ho ho' _ _ he => ?_, fun id hid => ?_⟩, ⟨q3.le, q3.nxle, q3.news, fun id hid he => ?_, q3.size, q3.frame, q3.os, q3.tape, q3.output⟩⟩
        · obtain ⟨_, o2, k1, _, k3⟩ := key id o ho
          obtain ⟨ob, r1, r2⟩ := q2.obj id L o2 hL k1
          exact ⟨ob, r1, k3 _ _ _ r2⟩
        · obtain ⟨_, o2, k1, k2, _⟩ := key id o ho
          obtain ⟨_, o3, k4, k5, _⟩ := key id' o' ho'
          exact q2.inj id id' L L' o2 o3 hL hL' k1 k4 k2 k5 he
        · cases hh : Hk.get id with
          | none => rfl
          | some o => have := (key id o hh).1; omega
        · obtain ⟨L, k1, _⟩ := hg id hid
          rw [he] at k1; cases k1
      rcases htp f args H0 nx _ H2 nx2 hr env w xs hg hv hs0 with ⟨r1, r2⟩ | ⟨c, w', r1, r2⟩
      · refine .inl ⟨r1, r2.mono ?_⟩
        rintro e w' ⟨c, rfl, q⟩
        exact ⟨c, rfl, fin c w' q⟩
      · exact .inr ⟨c, w', r1, fin c w' r2⟩

theorem topT_ok {g n e a b nk : Nat} {c0 : T AV} {H0 : Hp} {args0 v : AV} {tl : List (Nat × TO)} (st : Go.Ev.Start G g n e c0 H0) (hrf : RfOK P rf) (hext : ExtOK P G) (hname : ∀ (f : Nat) (fn : Func), P.funcs[f]? = some fn → fn.body.isSome = true → (fn.name == "runtime.NumGoroutine") = false)
    (hdraw : ∀ ih, CallOK P G ih → DrawOK P G ih) (m : Nat) (ht : okT (topA P G rf m a .nil H0 G) = true) (hH : isSomeH (hpT tl) = true) (htl : tellOK tl nk v (fcall P G rf m 1000 b args0 H0 G fin) = true) :
    CallOK P G (fun f args H nx => topT P G rf m g n e c0 a b args0 v (heapT tl) nk f args H nx) := by
  have h1 := fast_ok (P := P) (G := G) (rf := rf) (fun n => evCall_ok hrf hext hname hdraw n) m 1000
  have hH' : hpT tl = some (heapT tl) := by
    unfold heapT
    cases e : hpT tl with
    | none => rw [e] at hH; cases hH
    | some H => rfl
  have h2 := orA_ok st (tellA_ok (a := b) st h1 h1 hH' htl) (top_ok hrf hext hname hdraw m) ht
  exact call_ok (n := m) hrf hext hname (evT_ok h2 (hdraw _ h2) m)
end Go.Ev
