/- An evaluator of the model, and why what it tells is so (part 5). No condition. -/
import Derived.Test.YtpopoaopohngbaaGreatDoorEv4
import Derived.Test.YtpopoaopohngbaaGreatDoorEv1
import Derived.Lib.LaidU8
import Derived.Handed
set_option linter.unusedVariables false
set_option linter.unusedSimpArgs false
namespace Go.Ev
variable {P : Program} {G N : Nat} {ops : Array Oper} {env env' : Env} {tm tm' : T AV} {H H' : Hp} {nx0 nx nx' : Nat}
variable {ih : Nat → AV → Hp → Nat → VRes} {tm1 : T AV} {H1 : Hp} {nx1 : Nat} {ds1 : DS} {env0 : Env} {H0 : Hp} {w0 : World}
  {listed : Array Bool} {fuel : Nat} {pl : List Pd} {pend : List Pq} {rest : List Pl} {l : List CE} {ds : DS} {tmS : T AV} {a : Act} {w : World}

theorem putD_some {d : Option Nat} {v : AV} (h : ∀ i, d = some i → ∃ u, tm.get i = some u) : ∃ t', putD tm d v = some t' := by
  cases d with
  | none => exact ⟨tm, rfl⟩
  | some d => obtain ⟨u, hu⟩ := h d rfl; exact T.put_some hu

/-- what is done is struck -/
theorem Inv.strike {A B : List Pq} {q : Pq} {o : Oper} (h : Inv P G N ops ih tm1 H1 nx1 ds1 env0 H0 nx0 w0 listed (fuel + 1) env pl (A ++ q :: B) rest l tm H nx ds tmS a w) (ho : ops[q.1.i]? = some o) (he : ∀ e ∈ anyEdges o, listed.getD e false = true)
    {env' : Env} {tmS' : T AV} {a' : Act} {w' : World} (hst : St G N env' tmS' H nx ds a' w') (htr : Tr G env0 H0 nx0 w0 env' H nx w')
    (hag : ∀ d, q.1.ce.dst = some d → tmS'.get d = tm.get d) (hne : ∀ d, q.1.ce.dst ≠ some d → tmS'.get d = tmS.get d) (hkeep : ∀ id, env id = none → q.2 ≠ some id → env' id = none) :
    Inv P G N ops ih tm1 H1 nx1 ds1 env0 H0 nx0 w0 (listed.setIfInBounds q.1.i true) fuel env' pl (A ++ B) rest l tm H nx ds tmS' a' w' := by
  have hq : q ∈ A ++ q :: B := by simp
  have hmem : ∀ r, r ∈ A ++ B → r ∈ A ++ q :: B := fun r hr => by
    rcases List.mem_append.1 hr with hr | hr
    · exact List.mem_append_left _ hr
    · exact List.mem_append_right _ (List.mem_cons_of_mem _ hr)
  have hdis : ∀ r ∈ A ++ B, r.1.i ≠ q.1.i ∧ ∀ k, r.2 = some k → q.2 ≠ some k := fun r hr => by
    obtain ⟨d1, d2, d3⟩ := List.pairwise_append.1 h.dis
    rcases List.mem_append.1 hr with hr | hr
    · exact d3 r hr q (List.mem_cons_self ..)
    · have := (List.pairwise_cons.1 d2).1 r hr
      exact ⟨fun e => this.1 e.symm, fun k hk e => this.2 k e hk⟩
  refine ⟨h.pls, h.rgood, h.drw, h.run, clo_set h.clo ho he, ?_, ?_, ?_, by simp [h.siz], fun r hr => h.sub r (hmem r hr), h.rdis, ?_, fun r hr => h.idb r (hmem r hr), ?_, hst, ?_, htr, ?_⟩
  · intro j o' hj hu
    obtain ⟨u1, u2⟩ := unl_set hu
    rcases h.cov j o' hj u1 with ⟨r, hr, e⟩ | hx
    · refine .inl ⟨r, ?_, e⟩
      rcases List.mem_append.1 hr with hr | hr
      · exact List.mem_append_left _ hr
      · rcases List.mem_cons.1 hr with rfl | hr
        · exact absurd e.symm u2
        · exact List.mem_append_right _ hr
    · exact .inr hx
  · intro r hr; exact not_unl (h.pnl r (hmem r hr)) (hdis r hr).1
  · intro x hx
    refine not_unl (h.rnl x hx) (fun e => ?_)
    -- q was placed, x was not
    have hs := (h.sub q hq).1
    have : ∀ {rest : List Pl} {pl : List Pd} {l : List CE}, draws pl rest = some l → ∀ p ∈ pl, ∀ x ∈ rest, p.i ≠ x.i := by
      intro rest
      induction rest with
      | nil => intro pl l _ p _ x hx; cases hx
      | cons y rest ihr =>
        intro pl l hd p hp x hx
        obtain ⟨l', k1, k2, _⟩ := draws_cons hd
        rcases List.mem_cons.1 hx with rfl | hx
        · exact (okPl_spec k1).new p hp
        · exact ihr k2 p (List.mem_cons_of_mem _ hp) x hx
    exact this h.drw q.1 hs x hx e.symm
  · obtain ⟨d1, d2, d3⟩ := List.pairwise_append.1 h.dis
    exact List.pairwise_append.2 ⟨d1, (List.pairwise_cons.1 d2).2, fun x hx y hy => d3 x hx y (List.mem_cons_of_mem _ hy)⟩
  · have := h.len; simp only [List.length_append, List.length_cons] at this ⊢; omega
  · intro d hd
    by_cases e : q.1.ce.dst = some d
    · exact hag d e
    · rw [hne d e]
      refine h.agree d (fun r hr => ?_)
      rcases List.mem_append.1 hr with hr | hr
      · exact hd r (List.mem_append_left _ hr)
      · rcases List.mem_cons.1 hr with rfl | hr
        · exact e
        · exact hd r (List.mem_append_right _ hr)
  · intro r hr
    obtain ⟨b, v, h1, h2, h3, h4⟩ := h.pok r (hmem r hr)
    refine ⟨b, v, h1, h2, h3, fun hb => ?_⟩
    rcases h4 hb with c | c | ⟨k, id, o', e1, e2, e3, e4, e5, e6⟩
    · exact .inl c
    · exact .inr (.inl c)
    · exact .inr (.inr ⟨k, id, o', e1, e2, e3, e4, hkeep id e5 ((hdis r hr).2 id e1), e6⟩)

theorem Inv.light {A B : List Pq} {q : Pq} {o : Oper} (h : Inv P G N ops ih tm1 H1 nx1 ds1 env0 H0 nx0 w0 listed (fuel + 1) env pl (A ++ q :: B) rest l tm H nx ds tmS a w) (ho : ops[q.1.i]? = some o) (he : ∀ e ∈ anyEdges o, listed.getD e false = true)
    {K : Act → World → Prop} {Q : Exit → Act → World → Prop}
    (hK : ∀ env' tmS' a' w', Inv P G N ops ih tm1 H1 nx1 ds1 env0 H0 nx0 w0 (listed.setIfInBounds q.1.i true) fuel env' pl (A ++ B) rest l tm H nx ds tmS' a' w' → K a' w') : wpOp P ops Q q.1.i K a w := by
  have hq : q ∈ A ++ q :: B := by simp
  have hsee := h.looks hq ho he
  obtain ⟨o', g1, hf, _⟩ := h.pls.good q.1 (h.sub q hq).1
  rw [ho] at g1; cases g1
  have hpo := h.pok q hq
  obtain ⟨b, v, h1, h2, h3, h4⟩ := hpo
  rw [CE.sees, sameOn_app] at hsee
  have hgS : holdsG tmS q.1.ce.guard = some b := (guard_same hsee.1).trans h1
  have dlt : ∀ d, o.dst = some d → d < N := fun d e => hf.lt d (by rw [hf.dst]; exact e)
  obtain ⟨tmS', hp⟩ : ∃ t', putD tmS o.dst v = some t' := putD_some (fun i hi => h.st.m i (dlt i hi))
  have hag : ∀ d, q.1.ce.dst = some d → tmS'.get d = tm.get d := fun d e => by rw [h2 d e]; exact putD_eq hp (by rw [← hf.dst]; exact e)
  have hne : ∀ d, q.1.ce.dst ≠ some d → tmS'.get d = tmS.get d := fun d e => putD_ne hp (by rw [← hf.dst]; exact e)
  unfold wpOp
  rw [ho]
  simp only
  rw [guard_sound hf.guard h.st.t hgS]
  cases b with
  | false =>
    simp only [Bool.false_eq_true, if_false]
    have hv : v = undefA := h3 rfl
    subst hv
    exact hK _ _ _ _ (h.strike ho he (h.st.put (Le.refl _) h.st.s dlt (undef_VR env) hp) h.tr hag hne (fun _ e _ => e))
  | true =>
    simp only [if_true]
    refine .inl ?_
    unfold Oper.wp
    rcases h4 rfl with ⟨k, e⟩ | ⟨k, e⟩ | ⟨k, id, ob, e1, e2, e3, e4, e5, e6⟩
    · obtain ⟨c, r1, r2⟩ := pure_sound h.st.g h.st.t hf.co (by rw [← hf.kd]; exact k) ((pure_same hsee.2).trans e) w
      rw [r1]
      exact hK _ _ _ _ (h.strike ho he (h.st.put (Le.refl _) h.st.s dlt r2 hp) h.tr hag hne (fun _ e _ => e))
    · obtain ⟨c, r1, r2⟩ := read_sound h.st.g h.st.t h.st.s hf.co (by rw [← hf.kd]; exact k) ((read_same hsee.2).trans e)
      rw [r1]
      exact hK _ _ _ _ (h.strike ho he (h.st.put (Le.refl _) h.st.s dlt r2 hp) h.tr hag hne (fun _ e _ => e))
    · obtain ⟨c, obj, w', r1, r2, r3, r4, r5, L, hL, r6⟩ := new_sound (w := w) h.st.g h.st.t hf.co (by rw [← hf.kd]; exact k) ((new_same hsee.2).trans e2)
      obtain ⟨env', s1, s2, s3, s4, s5⟩ := SR.late h.st.s L hL e4 e5 e6 r2 r3 r4 r5 (fun env' hle he => (r6 env' hle he).2) h.tr e3
      rw [r1]
      refine hK _ _ _ _ (h.strike ho he (h.st.put s4 s2 dlt (r6 env' s4 s1).1 hp) s3 hag hne (fun j hj hn => ?_))
      rw [s5 j (fun e => hn (by rw [e1, e]))]; exact hj

theorem chk_mem {pre : Nat} {q : Pd} {d : Nat} (hk : q.ce.kd = 1) (hb : bit pre q.i = false) (hd : q.ce.dst = some d) : ∀ {pl : List Pd}, q ∈ pl → (q.ce.guard, q.ce.co, d) ∈ chkOf pre pl := by
  intro pl
  induction pl with
  | nil => intro h; cases h
  | cons p pl ih =>
    intro hq
    have e : chkOf pre (p :: pl) = Bool.rec (motive := fun _ => List (Option (Nat × Bool) × COp × Nat)) (chkOf pre pl)
      (Option.rec (motive := fun _ => List (Option (Nat × Bool) × COp × Nat)) (chkOf pre pl) (fun d => (p.ce.guard, p.ce.co, d) :: chkOf pre pl) p.ce.dst) (bz (Nat.beq p.ce.kd 1) (bn (bit pre p.i)) false) := rfl
    rw [e]
    rcases List.mem_cons.1 hq with rfl | hq
    · have : bz (Nat.beq q.ce.kd 1) (bn (bit pre q.i)) false = true := by rw [hk, hb]; rfl
      rw [this, hd]
      exact List.mem_cons_self ..
    · have ih := ih hq
      cases bz (Nat.beq p.ce.kd 1) (bn (bit pre p.i)) false with
      | false => exact ih
      | true =>
        cases p.ce.dst with
        | none => exact ih
        | some e => exact List.mem_cons_of_mem _ ih
theorem chk_spec {g : Option (Nat × Bool)} {co : COp} {d : Nat} (hg : holdsG tm g = some true) {v : AV} (hv : tm.get d = some v) : ∀ {l : List (Option (Nat × Bool) × COp × Nat)}, chkA P tm H l = true → (g, co, d) ∈ l → readA P co tm H = some v := by
  intro l
  induction l with
  | nil => intro _ h; cases h
  | cons x l ih =>
    intro h hm
    obtain ⟨g', co', d'⟩ := x
    simp only [chkA] at h
    rcases List.mem_cons.1 hm with e | hm
    · cases e
      rw [hg] at h
      simp only at h
      split at h
      · rename_i x y h1 h2
        cases hs : sameAV 1000 x y <;> rw [hs] at h
        · cases h
        · have := sameAV_eq hs
          subst this
          rw [hv] at h2; cases h2; exact h1
      · cases h
    · have hl : chkA P tm H l = true := by
        split at h
        · exact h
        · split at h
          · rename_i x y _ _
            cases hs : sameAV 1000 x y <;> rw [hs] at h
            · cases h
            · exact h
          · cases h
        · cases h
      exact ih hl hm

theorem Inv.heavy {x : Pl} {r : List Pl} {o : Oper} (hih : CallOK P G ih) (h : Inv P G N ops ih tm1 H1 nx1 ds1 env0 H0 nx0 w0 listed (fuel + 1) env pl pend (x :: r) l tm H nx ds tmS a w) (hx : x.hv = true) (ho : ops[x.i]? = some o) (he : ∀ e ∈ anyEdges o, listed.getD e false = true)
    {K : Act → World → Prop} {Q : Exit → Act → World → Prop}
    (hK : ∀ env' pl' l' tm' H' nx' ds' tmS' a' w', Inv P G N ops ih tm1 H1 nx1 ds1 env0 H0 nx0 w0 (listed.setIfInBounds x.i true) fuel env' pl' pend r l' tm' H' nx' ds' tmS' a' w' → K a' w') : wpOp P ops Q x.i K a w := by
  obtain ⟨l', h1, h2, rfl⟩ := draws_cons h.drw
  have hp := okPl_spec h1
  have hrg := h.rgood x (List.mem_cons_self ..)
  obtain ⟨o', g1, g2, g3⟩ := hrg.op
  rw [ho] at g1; cases g1
  have hkd : x.ce.kd = 3 ∨ x.ce.kd = 0 ∨ x.ce.kd = 1 := by
    have h1 := hp.hk hx
    have h2 := g2.kd
    have h3 := kind_le x.ce.co
    omega
  have hwc : ∃ chk, withChk pl (preOf pl x.ed) x.ce = { x.ce with chk := chk } ∧ (x.ce.kd = 3 → chk = chkOf (preOf pl x.ed) pl) := by
    unfold withChk
    cases hb : hvy x.ce with
    | true => exact ⟨_, rfl, fun _ => rfl⟩
    | false => exact ⟨x.ce.chk, rfl, fun e => by rw [hvy, e] at hb; cases hb⟩
  obtain ⟨chk, hwc, hchk⟩ := hwc
  have hrun := h.run
  rw [hwc] at hrun
  have hpl := h.pls.cons hrg hp
  have hdone : ∀ q ∈ pend, bit (preOf pl x.ed) q.1.i = false := fun q hq => by
    cases hb : bit (preOf pl x.ed) q.1.i with
    | false => rfl
    | true => exact absurd (preOf_ok h.pls.good hb _ h.clo (fun e hm => he e (g3 ▸ hm))) (unl_not (h.pnl q hq))
  have hsee : SameOn tmS tm x.ce.sees := fun d hd => by
    refine h.agree d (fun q hq hqd => ?_)
    have := hp.sees q.1 (h.sub q hq).1 d hqd hd
    rw [hdone q hq] at this; cases this
  obtain ⟨v, tm', H', nx', ds', e1, e2, e3, e4⟩ := opA_hv (k := opsA P G ih l') hrun hkd
  obtain ⟨tmS', hps⟩ : ∃ t', putD tmS x.ce.dst v = some t' := putD_some (fun i hi => h.st.m i (g2.lt i hi))
  have hrun' := e4 x.ce tmS tmS' (fun t H n d => .ok 0 t H n d) rfl rfl rfl rfl hrg.chk hsee hps
  refine op_sound hih ho g2 h.st hrun' ?_
  rintro env' t2 H2 n2 d2 a' w' hst htr heq
  cases heq
  have hdd : ∀ q ∈ pend, ∀ d, x.ce.dst = some d → q.1.ce.dst ≠ some d ∧ d ∉ q.1.ce.sees := fun q hq d hd => by
    have hs := h.sub q hq
    exact ⟨(hp.dst q.1 hs.1 d hd).1, fun hm => (by have := ((hp.dst q.1 hs.1 d hd).2 hs.2 hm).2; rw [hdone q hq] at this; cases this)⟩
  have hnone : ∀ id, id < nx → env id = none → env' id = none := fun id hid hn => by
    cases e : env' id with
    | none => rfl
    | some L =>
      rcases htr.news id L e with c | ⟨c, _⟩
      · rw [hn] at c; cases c
      · omega
  refine hK env' (⟨x.i, x.ce, preOf pl x.ed, x.hv⟩ :: pl) l' tm' H' nx' ds' tmS' a' w' ?_
  refine ⟨hpl, fun y hy => h.rgood y (List.mem_cons_of_mem _ hy), h2, e2, clo_set h.clo ho he, ?_, ?_, ?_, by simp [h.siz], fun q hq => ⟨List.mem_cons_of_mem _ (h.sub q hq).1, (h.sub q hq).2⟩, (List.pairwise_cons.1 h.rdis).2, h.dis, fun q hq k hk => Nat.lt_of_lt_of_le (h.idb q hq k hk) htr.nxle, ?_, hst, ?_, h.tr.trans htr, ?_⟩
  · intro j o' hj hu
    obtain ⟨u1, u2⟩ := unl_set hu
    rcases h.cov j o' hj u1 with c | ⟨y, hy, e⟩
    · exact .inl c
    · rcases List.mem_cons.1 hy with rfl | hy
      · exact absurd e.symm u2
      · exact .inr ⟨y, hy, e⟩
  · intro q hq; exact not_unl (h.pnl q hq) (hp.new q.1 (h.sub q hq).1)
  · intro y hy; exact not_unl (h.rnl y (List.mem_cons_of_mem _ hy)) (fun e => (List.pairwise_cons.1 h.rdis).1 y hy e.symm)
  · have := h.len; simp only [List.length_cons] at this; omega
  · intro d hd
    by_cases e : x.ce.dst = some d
    · rw [putD_eq hps e, putD_eq e1 e]
    · rw [putD_ne hps e, putD_ne e1 e]; exact h.agree d hd
  · intro q hq
    refine (h.pok q hq).keep (fun i hi => putD_ne e1 (fun e => (hdd q hq i e).2 hi)) (fun d hd => putD_ne e1 (fun e => (hdd q hq d e).1 hd)) ?_ ?_ htr.nxle
    · intro u hk hg hd hr
      rcases e3 with ⟨e3k, e3⟩ | ⟨rfl, _⟩
      · have hs := h.sub q hq
        obtain ⟨d, hd'⟩ := h.pls.rd q.1 hs.1 hk
        exact chk_spec hg (hd d hd') e3 (by show _ ∈ chk; rw [hchk e3k]; exact chk_mem hk (hdone q hq) hd' hs.1)
      · exact hr
    · intro id ob hid hn hob
      exact ⟨hnone id hid hn, by rw [htr.un id hid hn]; exact hob⟩
end Go.Ev

namespace Go.Ev
variable {P : Program} {G N : Nat} {ops : Array Oper} {env env' : Env} {tm tm' : T AV} {H H' : Hp} {nx0 nx nx' : Nat}
variable {ih : Nat → AV → Hp → Nat → VRes} {tm1 : T AV} {H1 : Hp} {nx1 : Nat} {ds1 : DS} {env0 : Env} {H0 : Hp} {w0 : World}

theorem anyEdges_mem {o : Oper} {j : Nat} : j ∈ anyEdges o ↔ ∃ e ∈ o.after, Region.binds .any e = true ∧ e.on = j := by
  simp only [anyEdges, List.mem_filterMap, cond_eq_ite]
  constructor
  · rintro ⟨e, he, h⟩
    split at h
    · rename_i hb; cases h; exact ⟨e, by simpa using he, hb, rfl⟩
    · cases h
  · rintro ⟨e, he, hb, rfl⟩
    exact ⟨e, by simpa using he, by simp [hb]⟩

theorem ready_iff {j : Nat} {listed : Array Bool} : j ∈ Region.ready .any ops listed ↔ listed.getD j true = false ∧ ∃ o, ops[j]? = some o ∧ ∀ e ∈ anyEdges o, listed.getD e false = true := by
  rw [mem_ready]
  constructor
  · rintro ⟨h, o, ho, k⟩
    refine ⟨h, o, ho, fun e he => ?_⟩
    obtain ⟨e', h1, h2, rfl⟩ := anyEdges_mem.1 he
    exact k e' h1 h2
  · rintro ⟨h, o, ho, k⟩
    exact ⟨h, o, ho, fun e he hb => k e.on (anyEdges_mem.2 ⟨e, he, hb, rfl⟩)⟩

theorem draws_apart : ∀ {rest : List Pl} {pl : List Pd} {l : List CE}, draws pl rest = some l → (∀ p ∈ pl, ∀ x ∈ rest, p.i ≠ x.i) ∧ rest.Pairwise (fun x y => x.i ≠ y.i)
  | [], _, _, _ => ⟨(fun p _ x hx => by cases hx), List.Pairwise.nil⟩
  | y :: rest, pl, l, hd => by
    obtain ⟨l', k1, k2, _⟩ := draws_cons hd
    obtain ⟨h1, h2⟩ := draws_apart k2
    refine ⟨fun p hp x hx => ?_, List.pairwise_cons.2 ⟨fun x hx => h1 _ (List.mem_cons_self ..) x hx, h2⟩⟩
    rcases List.mem_cons.1 hx with rfl | hx
    · exact (okPl_spec k1).new p hp
    · exact h1 p (List.mem_cons_of_mem _ hp) x hx

theorem passGo_mem {S : Pl → Prop} : ∀ {l : List Pl} {done : Nat} {k : Nat → List Pl → List Pl}, (∀ x ∈ l, S x) → (∀ d r, (∀ x ∈ r, S x) → ∀ y ∈ k d r, S y) → ∀ y ∈ passGo l done k, S y
  | [], done, k, _, hk => hk done [] (fun x hx => by cases hx)
  | x :: l, done, k, hl, hk => by
    show ∀ y ∈ (Bool.rec (motive := fun _ => List Pl) (passGo l done (fun d r => k d (x :: r))) (x :: passGo l (Nat.lor done (Nat.pow 2 x.i)) k) (bz x.hv false (rdy x done)) : List Pl), S y
    have hx := hl x (List.mem_cons_self ..)
    have ht : ∀ x ∈ l, S x := fun z hz => hl z (List.mem_cons_of_mem _ hz)
    cases bz x.hv false (rdy x done) with
    | false =>
      refine passGo_mem ht (fun d r hr => hk d _ (fun z hz => ?_))
      rcases List.mem_cons.1 hz with rfl | hz
      · exact hx
      · exact hr z hz
    | true =>
      intro y hy
      rcases List.mem_cons.1 hy with rfl | hy
      · exact hx
      · exact passGo_mem ht hk y hy
theorem hvGo_mem {S : Pl → Prop} : ∀ {l : List Pl} {done : Nat} {k : Pl → List Pl → List Pl}, (∀ x ∈ l, S x) → (∀ z r, S z → (∀ x ∈ r, S x) → ∀ y ∈ k z r, S y) → ∀ y ∈ hvGo l done k, S y
  | [], done, k, _, hk => fun y hy => by cases hy
  | x :: l, done, k, hl, hk => by
    show ∀ y ∈ (Bool.rec (motive := fun _ => List Pl) (hvGo l done (fun y r => k y (x :: r))) (k x l) (rdy x done) : List Pl), S y
    have hx := hl x (List.mem_cons_self ..)
    have ht : ∀ x ∈ l, S x := fun z hz => hl z (List.mem_cons_of_mem _ hz)
    cases rdy x done with
    | false =>
      refine hvGo_mem ht (fun z r hz hr => hk z _ hz (fun u hu => ?_))
      rcases List.mem_cons.1 hu with rfl | hu
      · exact hx
      · exact hr u hu
    | true => exact hk x l hx ht
theorem ordN_mem {S : Pl → Prop} : ∀ {n done : Nat} {l : List Pl}, (∀ x ∈ l, S x) → ∀ y ∈ ordN n done l, S y
  | 0, _, _, _ => fun y hy => by cases hy
  | n + 1, done, l, hl => by
    show ∀ y ∈ passGo l done (fun d r => hvGo r d (fun y r => y :: ordN n (Nat.lor d (Nat.pow 2 y.i)) r)), S y
    refine passGo_mem hl (fun d r hr => hvGo_mem hr (fun z r hz hr y hy => ?_))
    rcases List.mem_cons.1 hy with rfl | hy
    · exact hz
    · exact ordN_mem hr y hy
theorem zipPl_good : ∀ {l : List Oper} {ces : List CE} {i seen : Nat}, cOpers P G N ops l = some ces → (∀ k, l[k]? = ops[i + k]? ∨ l[k]? = none) → ∀ x ∈ zipPl l ces i seen, RGood P G N ops x
  | [], _, _, _, _, _ => fun x hx => by cases hx
  | o :: l, ces, i, seen, h, hl => by
    simp only [cOpers] at h
    split at h
    · rename_i c r h1 h2
      cases h
      intro x hx
      have hx : x ∈ zipC (zipPl l) o c r i (Nat.lor seen c.sb) := hx
      unfold zipC at hx
      have ho : ops[i]? = some o := by
        rcases hl 0 with q | q
        · simpa using q.symm
        · simp at q
      rcases List.mem_cons.1 hx with rfl | hx
      · exact ⟨⟨o, ho, (fits h1).1, rfl⟩, (fits h1).2⟩
      · refine zipPl_good h2 (fun k => ?_) x hx
        have := hl (k + 1)
        rw [List.getElem?_cons_succ] at this
        rw [show i.succ + k = i + (k + 1) by omega]
        exact this
    · cases h

theorem any_ok (hih : CallOK P G ih) {Q : Exit → Act → World → Prop} (hq : ∀ env' a' w', St G N env' tm1 H1 nx1 ds1 a' w' → Tr G env0 H0 nx0 w0 env' H1 nx1 w' → Q .normal a' w') :
    ∀ (fuel : Nat) {listed : Array Bool} {env : Env} {pl : List Pd} {pend : List Pq} {rest : List Pl} {l : List CE} {tm : T AV} {H : Hp} {nx : Nat} {ds : DS} {tmS : T AV} {a : Act} {w : World},
      Inv P G N ops ih tm1 H1 nx1 ds1 env0 H0 nx0 w0 listed fuel env pl pend rest l tm H nx ds tmS a w → wpAny P .any ops Q fuel listed a w := by
  intro fuel
  induction fuel with
  | zero =>
    intro listed env pl pend rest l tm H nx ds tmS a w h
    have hlen := h.len
    have h1 : pend = [] := List.eq_nil_of_length_eq_zero (by omega)
    have h2 : rest = [] := List.eq_nil_of_length_eq_zero (by omega)
    subst h1; subst h2
    refine ⟨?_, ?_⟩
    · rw [List.eq_nil_iff_forall_not_mem]
      intro j hj
      obtain ⟨u, o, ho, _⟩ := ready_iff.1 hj
      rcases h.cov j o ho u with ⟨q, hq, _⟩ | ⟨x, hx, _⟩
      · cases hq
      · cases hx
    · have hd := h.drw
      simp only [draws] at hd
      cases hd
      have hr := h.run
      simp only [opsA] at hr
      cases hr
      have hag : ∀ d, tmS.get d = tm1.get d := fun d => h.agree d (fun q hq => by cases hq)
      exact hq env a w ⟨h.st.g, fun i v hv => h.st.t i v (by rw [hag]; exact hv), h.st.n, fun d hd => by rw [← hag]; exact h.st.m d hd, h.st.s, h.st.d⟩ h.tr
  | succ fuel ihf =>
    intro listed env pl pend rest l tm H nx ds tmS a w h
    obtain ⟨pl, pend, rest, l, tm, H, nx, h, hn⟩ := h.norm
    have hS : ∀ j, listed.getD j false = true ∨ ¬ listed.getD j false = true := fun j => by cases listed.getD j false <;> simp

    refine ⟨fun hr => ?_, fun i hi => ?_⟩
    · have hnone : ∀ j o, ops[j]? = some o → listed.getD j true = false → ¬ ∀ e ∈ anyEdges o, listed.getD e false = true := fun j o ho hu hall => by
        have : j ∈ Region.ready .any ops listed := ready_iff.2 ⟨hu, o, ho, hall⟩
        rw [hr] at this; cases this
      have hlt : ∀ p ∈ pl, ¬ listed.getD p.i false = true → listed.getD p.i true = false := fun p hp hn => by
        rcases Nat.lt_or_ge p.i listed.size with h' | h'
        · simp [h'] at hn ⊢; exact hn
        · exfalso
          -- placed, but out of the list: it would be ready
          exact absurd h' (by have := h.siz; obtain ⟨o, g1, _⟩ := h.pls.good p hp; have := (Array.getElem?_eq_some_iff.1 g1).1; omega)
      have hall : ∀ p ∈ pl, listed.getD p.i false = true := fun p hp => by
        refine (hS p.i).resolve_right (fun hn => ?_)
        obtain ⟨q, q1, q2, q3⟩ := some_ready hS h.pls.good h.pls.tail ⟨p, hp, hn⟩
        obtain ⟨o, g1, _⟩ := h.pls.good q q1
        exact hnone q.i o g1 (hlt q q1 q2) (q3 o g1)
      have hp0 : pend = [] := by
        cases hpe : pend with
        | nil => rfl
        | cons q pe =>
          have hqm : q ∈ pend := by rw [hpe]; exact List.mem_cons_self ..
          exact absurd (hall q.1 (h.sub q hqm).1) (unl_not (h.pnl q hqm))
      have hr0 : rest = [] := by
        rcases hn with hn | ⟨x, r, rfl, hx⟩
        · exact hn
        · exfalso
          obtain ⟨o, g1, g2, g3⟩ := (h.rgood x (List.mem_cons_self ..)).op
          obtain ⟨l', h1, h2, _⟩ := draws_cons h.drw
          refine hnone x.i o g1 (h.rnl x (List.mem_cons_self ..)) (fun e he => ?_)
          obtain ⟨p, hp, rfl⟩ := (okPl_spec h1).ed e (g3 ▸ he)
          exact hall p hp
      subst hp0; subst hr0
      have hd := h.drw
      simp only [draws] at hd
      cases hd
      have hr := h.run
      simp only [opsA] at hr
      cases hr
      have hag : ∀ d, tmS.get d = tm1.get d := fun d => h.agree d (fun q hq => by cases hq)
      exact hq env a w ⟨h.st.g, fun i v hv => h.st.t i v (by rw [hag]; exact hv), h.st.n, fun d hd => by rw [← hag]; exact h.st.m d hd, h.st.s, h.st.d⟩ h.tr
    · obtain ⟨hu, o, ho, he⟩ := ready_iff.1 hi
      rcases h.cov i o ho hu with ⟨q, hq, rfl⟩ | ⟨x, hx, rfl⟩
      · obtain ⟨A, B, rfl⟩ := List.append_of_mem hq
        exact h.light ho he (fun env' tmS' a' w' h' => ihf h')
      · rcases hn with rfl | ⟨y, r, rfl, hy⟩
        · cases hx
        · rcases List.mem_cons.1 hx with rfl | hx
          · exact h.heavy hih hy ho he (fun env' pl' l' tm' H' nx' ds' tmS' a' w' h' => ihf h')
          · exfalso
            obtain ⟨l', h1, h2, _⟩ := draws_cons h.drw
            have hrg := h.rgood y (List.mem_cons_self ..)
            have hpl := h.pls.cons hrg (okPl_spec h1)
            have hr' : ∀ z ∈ r, RGood P G N ops z := fun z hz => h.rgood z (List.mem_cons_of_mem _ hz)
            obtain ⟨o', g1, g2, g3⟩ := (hr' x hx).op
            rw [ho] at g1; cases g1
            have := behind h.clo hpl hr' h2 (k := y.i) (by show Bool.rec (motive := fun _ => Option Nat) _ _ y.hv = _; rw [hy]) x hx (fun e hm => he e (g3 ▸ hm))
            exact unl_not (h.rnl y (List.mem_cons_self ..)) this

theorem draw_ok (hmix : P.follows .mixedOrders = true) : ∀ ih, CallOK P G ih → DrawOK P G ih := by
  intro ih hih N id ops l hc env tm H nx ds a w x tm1 H1 nx1 ds1 hst h Q hq
  have hx := opsA_zero (P := P) (G := G) h
  subst hx
  unfold cDraw at hc
  split at hc
  · cases hc
  · rename_i ces hces
    have m2 : ∀ x ∈ ordN ops.size 0 (zipPl ops.toList ces 0 0), RGood P G N ops x := ordN_mem (zipPl_good hces (fun k => .inl (by simp)))
    generalize ordN ops.size 0 (zipPl ops.toList ces 0 0) = ps at hc m2
    unfold drawZ at hc
    simp only [cond_eq_ite] at hc
    split at hc
    · rename_i hb
      · simp only [Bool.and_eq_true] at hb
        obtain ⟨hb1, hb2⟩ := hb
        have hlike : Like w { w with drawn := w.drawn + 1 } := ⟨rfl, rfl, rfl, rfl⟩
        obtain ⟨k1, k2⟩ := hst.s.like (G := G) hlike
        refine wp_region_any hmix (any_ok hih (env0 := env) (H0 := H) (nx0 := nx) (w0 := w) hq ops.size (env := env) (pl := []) (pend := []) (rest := ps) (l := l) (tm := tm) (H := H) (nx := nx) (ds := ds) (tmS := tm) ?_)
        refine ⟨⟨fun p hp => (by cases hp), fun p hp => (by cases hp), trivial, fun p hp => (by cases hp)⟩, m2, hc, h, ?_, ?_, fun q hq => (by cases hq), ?_, by simp, fun q hq => (by cases hq), (draws_apart hc).2, List.Pairwise.nil, fun q hq => (by cases hq), ?_, ⟨hst.g, hst.t, hst.n, hst.m, k1, hst.d⟩, fun _ _ => rfl, k2, fun q hq => (by cases hq)⟩
        · intro i o ho hl
          exfalso
          have : (Array.replicate ops.size false).getD i false = false := by
            simp only [Array.getD_eq_getD_getElem?, Array.getElem?_replicate]
            split <;> rfl
          rw [this] at hl; cases hl
        · intro j o ho _
          have hlt : j < ops.size := (Array.getElem?_eq_some_iff.1 ho).1
          have := List.all_eq_true.1 hb2 j (List.mem_range.2 hlt)
          rw [bitsOf_mem, List.mem_map] at this
          obtain ⟨x, hx, e⟩ := this
          exact .inr ⟨x, hx, e⟩
        · intro x hx
          obtain ⟨o, g1, _⟩ := (m2 x hx).op
          have hlt : x.i < ops.size := (Array.getElem?_eq_some_iff.1 g1).1
          simp [Array.getElem?_replicate, hlt]
        · have e1 := Nat.eq_of_beq_eq_true hb1
          simp only [List.length_nil]
          omega
    · cases hc
end Go.Ev

namespace Go.Ev
open Go.Lib
variable {P : Program} {G : Nat} {env : Env} {W w : World}

def env0 (G : Nat) : Env := fun id => if id < G then some ⟨id, 0, 0, 0⟩ else none
theorem env0_lt {G id : Nat} {L : Loc} (h : env0 G id = some L) : id < G ∧ L = ⟨id, 0, 0, 0⟩ := by
  unfold env0 at h; split at h
  · rename_i e; cases h; exact ⟨e, rfl⟩
  · cases h
theorem env0_GL (G : Nat) : GL G (env0 G) := fun g h => ⟨⟨g, 0, 0, 0⟩, by simp [env0, h], rfl, rfl⟩

/-- the start: the globals that are laid, and no other block -/
theorem start_SR {H0 : Hp} (hsz : G ≤ W.heap.size) (hH : ∀ g o, H0.get g = some o → g < G ∧ (o = .dead ∨ ∃ ob, W.heap[g]? = some ob ∧ OR (env0 G) ⟨g, 0, 0, 0⟩ o ob)) : SR (env0 G) H0 G W := by
  refine ⟨fun id L o hL ho => ?_, fun id L hL => ?_, fun id id' L L' o o' hL hL' ho ho' _ _ e => ?_, fun id hid => ?_⟩
  · obtain ⟨h1, rfl⟩ := env0_lt hL
    obtain ⟨_, h2⟩ := hH id o ho
    rcases h2 with rfl | h2
    · exact ⟨W.heap[id], by simp [Array.getElem?_eq_getElem (show id < W.heap.size by omega)], trivial⟩
    · exact h2
  · obtain ⟨h1, rfl⟩ := env0_lt hL
    exact ⟨by show id < _; omega, h1⟩
  · obtain ⟨h1, rfl⟩ := env0_lt hL
    obtain ⟨h2, rfl⟩ := env0_lt hL'
    exact e
  · cases h : H0.get id with
    | none => rfl
    | some o => have := (hH id o h).1; omega




theorem VL_ofList : ∀ {l : List AV} {vs : List Value}, l.length = vs.length → (∀ (i : Nat) (x : AV) (v : Value), l[i]? = some x → vs[i]? = some v → VR env x v) → VL env (AV.ofList l) vs
  | [], [], _, _ => rfl
  | [], v :: vs, h, _ => by cases h
  | x :: l, [], h, _ => by cases h
  | x :: l, v :: vs, h, hv => ⟨v, vs, rfl, hv 0 x v rfl rfl, VL_ofList (by simpa using h) (fun i x' v' h1 h2 => hv (i + 1) x' v' (by simpa using h1) (by simpa using h2))⟩

/-- an array of strings that reads so -/
theorem strs_of_array {H : Type} {enc : TypeId × Value → H} {base : Nat} {sp : Nat → Bool} {held : Bool} {fuel : Nat} {t e : TypeId} {n : Nat} {cs : List Value} {ls : List (List UInt8)} {p : List MemPlace} (ht : P.underlying t = some (.array n e)) (he : P.underlying e = some .string) (hce : P.cellsOf e = 1)
    (h : DataW.trod enc P w base sp held fuel t cs = some (.agg (ls.map fun l => .lit (.string l)), p)) (hn : ls.length = n) (hcs : cs.length = n) : VL env (strsA ls) cs := by
  refine VL_ofList (by simp [hn, hcs]) (fun i x v hx hv => ?_)
  have hi : i < n := by
    have := (List.getElem?_eq_some_iff.1 hx).1
    simp at this; omega
  obtain ⟨fuel', d, q, hd, hr⟩ := array_elem ht h i hi
  obtain ⟨s, e1, e2, _⟩ := DataW.trod_string he hr
  rw [hce, Nat.mul_one] at e1
  have e3 := congrArg (·[0]?) e1
  simp only [List.getElem?_take, List.getElem?_drop, Nat.add_zero, List.getElem?_cons_zero] at e3
  simp at e3
  rw [hv] at e3; cases e3
  simp only [List.getElem?_map, Option.map_eq_some_iff] at hx hd
  obtain ⟨l, hl, rfl⟩ := hx
  obtain ⟨l', hl', e5⟩ := hd
  rw [hl] at hl'; cases hl'
  rw [← e5] at e2
  simp only [Prod.mk.injEq, DataW.lit.injEq, Lit.string.injEq] at e2
  exact ⟨s, rfl, by rw [e2.1]⟩

/-- a row of the globals -/
theorem start_row {name : String} {ls : List (List UInt8)} {g t e n : Nat} {z : Array Value} (hr : VarReads P W name (.agg (ls.map fun l => .lit (.string l)))) (hg : P.globalNamed name = some g) (hgl : g < P.globals.size)
    (hty : (P.globals[g]?).map (·.type) = some t) (ht : P.underlying t = some (.array n e)) (he : P.underlying e = some .string) (hce : P.cellsOf e = 1) (hn : ls.length = n)
    (hs : W.ShapedOpen P) (hz : (((begin P (fun _ _ => 0) default).world.heap[g]?).bind Obj.row?) = some (z, t)) (hzs : z.size = n) {c : T AV} (hc : rowOf (strsA ls) = some c) :
    ∃ ob, W.heap[g]? = some ob ∧ OR env ⟨g, 0, 0, 0⟩ (.cells c n 0 t) ob := by
  obtain ⟨cs, h1, h2, _⟩ := hs.1 g z t hgl hz
  obtain ⟨g', t', cs', fuel, p, k1, k2, k3, k4⟩ := hr
  rw [hg] at k1; cases k1
  rw [hty] at k2; cases k2
  have : cs' = cs := by
    simp only [World.var?, hg, Option.bind_some, h1, Option.some.injEq] at k3
    exact k3.symm
  subst this
  have hv : VL env (strsA ls) cs'.toList := strs_of_array ht he hce k4 hn (by simp [h2, hzs])
  have hlen : (strsA ls).len = n := by rw [hv.len]; simp [h2, hzs]
  refine ⟨_, h1, ?_⟩
  have := OR_row (env := env) hc hv g t
  rw [hlen] at this
  exact this

theorem hpOf_get : ∀ {l : List AO} {i : Nat} {H H' : Hp}, hpOf l i H = some H' → ∀ j, H'.get j = if i ≤ j ∧ j < i + l.length then l[j - i]? else H.get j
  | [], i, H, H', h, j => by cases h; simp; omega
  | o :: l, i, H, H', h, j => by
    simp only [hpOf] at h
    split at h
    · rename_i H1 h1
      rw [hpOf_get h j, T.get_put h1]
      simp only [List.length_cons]
      by_cases e : j = i
      · subst e; simp; omega
      · by_cases e2 : i + 1 ≤ j ∧ j < i + 1 + l.length
        · have e3 : i ≤ j ∧ j < i + (l.length + 1) := by omega
          rw [if_pos e2, if_pos e3, show j - i = (j - (i + 1)) + 1 by omega, List.getElem?_cons_succ]
        · have e3 : ¬ (i ≤ j ∧ j < i + (l.length + 1)) := by omega
          rw [if_neg e2, if_neg e3, if_neg e]
    · cases h


theorem okT_spec {o : VRes} (h : okT o = true) : ∃ H nx, o = .ok (.bool true) H nx := by
  unfold okT at h
  split at h
  · rename_i b H nx; cases h; exact ⟨H, nx, rfl⟩
  · cases h

theorem calls_true {ih : Nat → AV → Hp → Nat → VRes} (hrun : CallOK P G ih) {f : Nat} {fn : Func} (hf : P.funcs[f]? = some fn) (hb : fn.body.isNone = false) (hn : (fn.name == "runtime.NumGoroutine") = false)
    {args : AV} {H0 : Hp} (h : okT (ih f args H0 G) = true) (hs : SR (env0 G) H0 G W) {xs : Array Value} (hv : VL (env0 G) args xs.toList) :
    Calls P f xs W fun e w' => e = .returned (.bool true) ∧ W.heap.size ≤ w'.heap.size ∧ (∀ b, b < W.heap.size → w'.heap[b]? = W.heap[b]?) ∧ w'.os = W.os ∧ w'.tape = W.tape ∧ w'.output = W.output := by
  obtain ⟨H', nx', e⟩ := okT_spec h
  rcases hrun f args H0 G _ H' nx' e (env0 G) W xs (env0_GL G) hv hs with ⟨_, r2⟩ | ⟨c, w', r1, _⟩
  · refine r2.mono ?_
    rintro e w' ⟨c, rfl, env', q1, q2, q3⟩
    simp only [VR] at q1
    subst q1
    exact ⟨rfl, q3.size, fun b hb => q3.frame b hb (fun id L hG hL => absurd (env0_lt hL).1 (by omega)), q3.os, q3.tape, q3.output⟩
  · exfalso
    simp only [callFunc, Sem.run_bind, run_program, Result.andThen_ok, hf, hn, hb, Bool.false_eq_true, if_false, Sem.run_pure] at r1
    cases r1
end Go.Ev

namespace Go.Ev
variable {P : Program} {G rf : Nat}

theorem putK_eq : ∀ (l : AV) (c : T AV) (i : Nat), putK c i l = putCells c i l := by
  intro l
  induction l with
  | cons h t _ ih =>
    intro c i
    show (Option.rec (motive := fun _ => Option (T AV)) none (fun c' => putK c' (Nat.succ i) t) (c.put i h) : Option (T AV)) = _
    simp only [putCells]
    cases c.put i h with
    | none => rfl
    | some c' => exact ih c' (Nat.succ i)
  | _ => intro c i; rfl
theorem rowK_eq (l : AV) : rowK l = rowOf l := putK_eq l .e 0
theorem oneK_eq (v : AV) : oneK v = oneA v := by cases v <;> rfl
theorem allOneK_eq : ∀ (l : AV), allOneK l = allOne l := by
  intro l
  induction l with
  | cons h t _ ih =>
    show (Bool.rec (motive := fun _ => Bool) false (allOneK t) (oneK h) : Bool) = _
    rw [oneK_eq, ih]
    simp only [allOne]
    cases oneA h <;> rfl
  | _ => rfl
theorem getK_eq (c : T AV) : ∀ (n i : Nat), getK c i n = getCells c i n
  | 0, i => by cases i <;> rfl
  | n + 1, i => by
    show (Option.rec (motive := fun _ => Option AV) none (fun v => Option.rec (motive := fun _ => Option AV) none (fun l => some (.cons v l)) (getK c (Nat.succ i) n)) (c.get i) : Option AV) = _
    rw [getK_eq c n]
    simp only [getCells]
    cases c.get i with
    | none => rfl
    | some v => show (Option.rec (motive := fun _ => Option AV) none (fun l => some (.cons v l)) (getCells c (Nat.succ i) n) : Option AV) = _; cases getCells c (Nat.succ i) n <;> rfl
theorem rdK_eq (H : Hp) (id off n : Nat) : rdK H id off n = rdAt H id off n := by
  unfold rdK rdAt
  cases H.get id with
  | none => rfl
  | some o => cases o <;> first | exact getK_eq _ _ _ | rfl
theorem wrAtK_eq (H : Hp) (id off : Nat) (l : AV) (G : Nat) : wrAtK G H id off l = wrAt G H id off l := by
  unfold wrAtK wrAt
  cases H.get id with
  | none => rfl
  | some o =>
    cases o with
    | cells c n sz e =>
      show wkC G H id off l c n sz e = _
      unfold wkC
      rw [putK_eq, allOneK_eq]
      simp only
      cases Nat.ble G id <;> cases Nat.ble (Nat.add off l.len) n <;> cases allOne l <;> first
        | rfl
        | (simp only [bz, Bool.and_self, cond_true]; cases putCells c off l <;> rfl)
    | _ => rfl
theorem initK_eq (N : Nat) (args : AV) : initK N args = initT N args := by
  unfold initK initT
  rw [putK_eq]
  cases Nat.ble args.len N <;> cases Nat.ble N 4096 <;> rfl

/-- what the slow one comes to, given enough fuel -/
def EvR (P : Program) (G rf : Nat) (c : CC) (tm : T AV) (H : Hp) (nx : Nat) (ds : DS) (x : Nat) (tm' : T AV) (H' : Hp) (nx' : Nat) (ds' : DS) : Prop :=
  ∃ n0, ∀ n, n0 ≤ n → ev P G rf n c tm H nx ds = .ok x tm' H' nx' ds'
def CallR (P : Program) (G rf : Nat) (f : Nat) (args : AV) (H : Hp) (nx : Nat) (v : AV) (H' : Hp) (nx' : Nat) : Prop :=
  ∃ n0, ∀ n, n0 ≤ n → callA P G (ev P G rf n) (rdA rf) f args H nx = .ok v H' nx'
/-- operations in a row -/
def OpsR (P : Program) (G rf : Nat) (l : List CE) (tm : T AV) (H : Hp) (nx : Nat) (ds : DS) (tm' : T AV) (H' : Hp) (nx' : Nat) (ds' : DS) : Prop :=
  ∃ n0, ∀ n, n0 ≤ n → opsA P G (callA P G (ev P G rf n) (rdA rf)) l tm H nx ds = .ok 0 tm' H' nx' ds'
/-- one operation, whatever follows -/
def OpR (P : Program) (G rf : Nat) (ce : CE) (tm : T AV) (H : Hp) (nx : Nat) (ds : DS) (tm' : T AV) (H' : Hp) (nx' : Nat) (ds' : DS) : Prop :=
  ∃ n0, ∀ n, n0 ≤ n → ∀ k : Kont, opA P G (callA P G (ev P G rf n) (rdA rf)) ce tm H nx ds k = k tm' H' nx' ds'

/-- a call is what the slow one does -/
def CFok (P : Program) (G rf : Nat) (cl : CLf) : Prop := ∀ f args H nx kc r H1 nx1, cl f args H nx kc = .ok r H1 nx1 → ∃ v H' nx', CallR P G rf f args H nx v H' nx' ∧ kc v H' nx' = .ok r H1 nx1
def FoOK (P : Program) (G rf : Nat) (ce : CE) (F : CLf → K → K) : Prop := ∀ cl, CFok P G rf cl → ∀ k tm H nx ds r H1 nx1, F cl k tm H nx ds = .ok r H1 nx1 →
  ∃ tm' H' nx' ds', OpR P G rf ce tm H nx ds tm' H' nx' ds' ∧ k tm' H' nx' ds' = .ok r H1 nx1
/-- a linked operation is an operation, told what follows -/
def LiOK (P : Program) (G rf : Nat) (ce : CE) (L : Li) : Prop := ∃ F, FoOK P G rf ce F ∧ ∀ r cl k, (L.link r).run cl k = F cl (r.run cl k)
def FosOK (P : Program) (G rf : Nat) (l : List CE) (F : CLf → K → K) : Prop := ∀ cl, CFok P G rf cl → ∀ k tm H nx ds r H1 nx1, F cl k tm H nx ds = .ok r H1 nx1 →
  ∃ tm' H' nx' ds', OpsR P G rf l tm H nx ds tm' H' nx' ds' ∧ k tm' H' nx' ds' = .ok r H1 nx1
def FCok (P : Program) (G rf : Nat) (c : CC) (F : CLf → Nat → K → (Nat → K) → K) : Prop := ∀ cl, CFok P G rf cl → ∀ m kn kx tm H nx ds r H1 nx1, F cl m kn kx tm H nx ds = .ok r H1 nx1 →
  ∃ x tm' H' nx' ds', EvR P G rf c tm H nx ds x tm' H' nx' ds' ∧ ((x = 0 ∧ kn tm' H' nx' ds' = .ok r H1 nx1) ∨ (x ≠ 0 ∧ kx x tm' H' nx' ds' = .ok r H1 nx1))

theorem optE_ok {α : Type} {o : Option α} {c : α → VRes} {r : AV} {H1 : Hp} {nx1 : Nat} (h : optE o c .no = .ok r H1 nx1) : ∃ a, o = some a ∧ c a = .ok r H1 nx1 := by
  cases o with
  | none => cases h
  | some a => exact ⟨a, rfl, h⟩
theorem boE_ok {b : Bool} {c : VRes} {r : AV} {H1 : Hp} {nx1 : Nat} (h : boE b c .no = .ok r H1 nx1) : b = true ∧ c = .ok r H1 nx1 := by
  cases b with
  | false => cases h
  | true => exact ⟨rfl, h⟩

/-! code -/
theorem fops_ok (hop : ∀ ce, LiOK P G rf ce (fOp P G ce)) : ∀ l : List CE, FosOK P G rf l (fOps P G l).run := by
  intro l
  induction l with
  | nil =>
    intro cl hcl k tm H nx ds r H1 nx1 h
    exact ⟨tm, H, nx, ds, ⟨0, fun n _ => rfl⟩, h⟩
  | cons ce l ih =>
    intro cl hcl k tm H nx ds r H1 nx1 h
    have h : ((fOp P G ce).link (fOps P G l)).run cl k tm H nx ds = .ok r H1 nx1 := h
    obtain ⟨F, hF, eF⟩ := hop ce
    rw [eF] at h
    obtain ⟨tm1, H2, nx2, ds1, ⟨n1, q1⟩, e1⟩ := hF cl hcl _ _ _ _ _ _ _ _ h
    obtain ⟨tm2, H3, nx3, ds2, ⟨n2, q2⟩, e2⟩ := ih cl hcl _ _ _ _ _ _ _ _ e1
    refine ⟨tm2, H3, nx3, ds2, ⟨max n1 n2, fun n hn => ?_⟩, e2⟩
    have := q1 n (by omega) (opsA P G (callA P G (ev P G rf n) (rdA rf)) l)
    show opA P G _ ce tm H nx ds (opsA P G (callA P G (ev P G rf n) (rdA rf)) l) = _
    rw [this]
    exact q2 n (by omega)

theorem ev_succ (n : Nat) (c : CC) (tm : T AV) (H : Hp) (nx : Nat) (ds : DS) : ev P G rf (n + 1) c tm H nx ds = stepC P G (callA P G (ev P G rf n) (rdA rf)) (ev P G rf n) c tm H nx ds := rfl

theorem evR_of {c : CC} {tm : T AV} {H : Hp} {nx : Nat} {ds : DS} {x : Nat} {tm' : T AV} {H' : Hp} {nx' : Nat} {ds' : DS} (n0 : Nat)
    (h : ∀ n, n0 ≤ n → stepC P G (callA P G (ev P G rf n) (rdA rf)) (ev P G rf n) c tm H nx ds = .ok x tm' H' nx' ds') : EvR P G rf c tm H nx ds x tm' H' nx' ds' :=
  ⟨n0 + 1, fun n hn => by
    obtain ⟨m, rfl⟩ : ∃ m, n = m + 1 := ⟨n - 1, by omega⟩
    exact h m (by omega)⟩

theorem fc_ok (hop : ∀ ce, LiOK P G rf ce (fOp P G ce)) (hg : ∀ (x : CO) (tm : T AV) (v : AV), (mkG x).g tm = some v → opd tm x = some v) (hb : ∀ (v : AV) (c : Bool → VRes) r H1 nx1, vBool v c .no = .ok r H1 nx1 → ∃ b, v = .bool b ∧ c b = .ok r H1 nx1) :
    ∀ c : CC, FCok P G rf c (fC P G c).run := by
  intro c
  induction c with
  | bad => intro cl hcl m kn kx tm H nx ds r H1 nx1 h; cases h
  | skip => intro cl hcl m kn kx tm H nx ds r H1 nx1 h; exact ⟨0, tm, H, nx, ds, evR_of 0 (fun _ _ => rfl), .inl ⟨rfl, h⟩⟩
  | ret => intro cl hcl m kn kx tm H nx ds r H1 nx1 h; exact ⟨1, tm, H, nx, ds, evR_of 0 (fun _ _ => rfl), .inr ⟨by decide, h⟩⟩
  | exit id => intro cl hcl m kn kx tm H nx ds r H1 nx1 h; exact ⟨id + 2, tm, H, nx, ds, evR_of 0 (fun _ _ => rfl), .inr ⟨by omega, h⟩⟩
  | seq a b iha ihb =>
    intro cl hcl m kn kx tm H nx ds r H1 nx1 h
    have h : (fC P G a).run cl m ((fC P G b).run cl m kn kx) kx tm H nx ds = .ok r H1 nx1 := h
    obtain ⟨x, tm1, H2, nx2, ds1, ⟨n1, q1⟩, e⟩ := iha cl hcl _ _ _ _ _ _ _ _ _ _ h
    rcases e with ⟨rfl, e⟩ | ⟨hx, e⟩
    · obtain ⟨y, tm2, H3, nx3, ds2, ⟨n2, q2⟩, e2⟩ := ihb cl hcl _ _ _ _ _ _ _ _ _ _ e
      refine ⟨y, tm2, H3, nx3, ds2, evR_of (max n1 n2) (fun n hn => ?_), e2⟩
      simp only [stepC, q1 n (by omega)]
      exact q2 n (by omega)
    · refine ⟨x, tm1, H2, nx2, ds1, evR_of n1 (fun n hn => ?_), .inr ⟨hx, e⟩⟩
      simp only [stepC, q1 n hn]
      cases x with
      | zero => exact absurd rfl hx
      | succ x => rfl
  | cond c a b iha ihb =>
    intro cl hcl m kn kx tm H nx ds r H1 nx1 h
    have h : optE ((mkG c).g tm) (fun v => vBool v (fun t => boE t ((fC P G a).run cl m kn kx tm H nx ds) ((fC P G b).run cl m kn kx tm H nx ds)) .no) .no = .ok r H1 nx1 := h
    obtain ⟨v, e1, h⟩ := optE_ok h
    obtain ⟨t, rfl, h⟩ := hb _ _ _ _ _ h
    have e2 := hg _ _ _ e1
    cases t with
    | true =>
      obtain ⟨x, tm1, H2, nx2, ds1, ⟨n1, q1⟩, e⟩ := iha cl hcl _ _ _ _ _ _ _ _ _ _ h
      exact ⟨x, tm1, H2, nx2, ds1, evR_of n1 (fun n hn => by simp only [stepC, e2]; exact q1 n hn), e⟩
    | false =>
      obtain ⟨x, tm1, H2, nx2, ds1, ⟨n1, q1⟩, e⟩ := ihb cl hcl _ _ _ _ _ _ _ _ _ _ h
      exact ⟨x, tm1, H2, nx2, ds1, evR_of n1 (fun n hn => by simp only [stepC, e2]; exact q1 n hn), e⟩
  | block id b ihb =>
    intro cl hcl m kn kx tm H nx ds r H1 nx1 h
    have h : (fC P G b).run cl m kn (outK (Nat.add id 2) kn kx) tm H nx ds = .ok r H1 nx1 := h
    obtain ⟨x, tm1, H2, nx2, ds1, ⟨n1, q1⟩, e⟩ := ihb cl hcl _ _ _ _ _ _ _ _ _ _ h
    rcases e with ⟨rfl, e⟩ | ⟨hx, e⟩
    · refine ⟨0, tm1, H2, nx2, ds1, evR_of n1 (fun n hn => ?_), .inl ⟨rfl, e⟩⟩
      simp only [stepC, q1 n hn]
      have : Nat.beq 0 (Nat.add id 2) = false := rfl
      rw [this]; rfl
    · unfold outK at e
      cases hb : Nat.beq x (Nat.add id 2) with
      | true =>
        rw [hb] at e
        refine ⟨0, tm1, H2, nx2, ds1, evR_of n1 (fun n hn => ?_), .inl ⟨rfl, e⟩⟩
        simp only [stepC, q1 n hn, hb, cond_true]
      | false =>
        rw [hb] at e
        refine ⟨x, tm1, H2, nx2, ds1, evR_of n1 (fun n hn => ?_), .inr ⟨hx, e⟩⟩
        simp only [stepC, q1 n hn, hb, cond_false]
  | loop b ihb =>
    intro cl hcl m kn kx
    have key : ∀ (j : Nat) tm H nx ds r H1 nx1, (Nat.rec (motive := fun _ => K) noK (fun _ ih => (fC P G b).run cl m ih kx) j : K) tm H nx ds = .ok r H1 nx1 →
        ∃ x tm' H' nx' ds', EvR P G rf (.loop b) tm H nx ds x tm' H' nx' ds' ∧ x ≠ 0 ∧ kx x tm' H' nx' ds' = .ok r H1 nx1 := by
      intro j
      induction j with
      | zero => intro tm H nx ds r H1 nx1 h; cases h
      | succ j ihj =>
        intro tm H nx ds r H1 nx1 h
        have h : (fC P G b).run cl m (Nat.rec (motive := fun _ => K) noK (fun _ ih => (fC P G b).run cl m ih kx) j) kx tm H nx ds = .ok r H1 nx1 := h
        obtain ⟨x, tm1, H2, nx2, ds1, ⟨n1, q1⟩, e⟩ := ihb cl hcl _ _ _ _ _ _ _ _ _ _ h
        rcases e with ⟨rfl, e⟩ | ⟨hx, e⟩
        · obtain ⟨y, tm2, H3, nx3, ds2, ⟨n2, q2⟩, hy, e2⟩ := ihj _ _ _ _ _ _ _ e
          refine ⟨y, tm2, H3, nx3, ds2, evR_of (max n1 n2) (fun n hn => ?_), hy, e2⟩
          simp only [stepC, q1 n (by omega)]
          exact q2 n (by omega)
        · refine ⟨x, tm1, H2, nx2, ds1, evR_of n1 (fun n hn => ?_), hx, e⟩
          simp only [stepC, q1 n hn]
          cases x with
          | zero => exact absurd rfl hx
          | succ x => rfl
    intro tm H nx ds r H1 nx1 h
    obtain ⟨x, tm1, H2, nx2, ds1, q, hx, e⟩ := key m _ _ _ _ _ _ _ h
    exact ⟨x, tm1, H2, nx2, ds1, q, .inr ⟨hx, e⟩⟩
  | ops l =>
    intro cl hcl m kn kx tm H nx ds r H1 nx1 h
    have h : (fOps P G l).run cl kn tm H nx ds = .ok r H1 nx1 := h
    obtain ⟨tm1, H2, nx2, ds1, ⟨n1, q1⟩, e⟩ := fops_ok hop l cl hcl _ _ _ _ _ _ _ _ h
    exact ⟨0, tm1, H2, nx2, ds1, evR_of n1 (fun n hn => q1 n hn), .inl ⟨rfl, e⟩⟩

/-! functions -/
theorem callA_eq (n : Nat) (f : Nat) (args : AV) (H : Hp) (nx : Nat) : callA P G (ev P G rf n) (rdA rf) f args H nx =
    (match cFn P G f with
  | .bad => .no
  | .ext x => (match extA x args H nx with | .v a H nx => .ok a H nx | _ => .no)
  | .go c N res => (match initT N args with
    | none => .no
    | some tm => (match ev P G rf n c tm H nx [] with
      | .no => .no
      | .ok x tm H nx ds => bif Nat.ble x 1 then (match runD (rdA rf) ds H nx with
          | .no => .no
          | .ok _ H nx => (match resA tm H res with | some l => .ok (resOf l) H nx | none => .no)) else .no))) := rfl

theorem end_ok {res : List CRes} {kc : KC} {tm : T AV} {H : Hp} {nx : Nat} {ds : DS} {r : AV} {H1 : Hp} {nx1 : Nat} (h : fEnd rf res kc tm H nx ds = .ok r H1 nx1) :
    ∃ u H' nx' l, runD (rdA rf) ds H nx = .ok u H' nx' ∧ resA tm H' res = some l ∧ kc (resOf l) H' nx' = .ok r H1 nx1 := by
  unfold fEnd at h
  split at h
  · cases h
  · rename_i u H' nx' e
    obtain ⟨l, e1, h⟩ := optE_ok h
    exact ⟨u, H', nx', l, e, e1, h⟩

theorem fn_ok (hc : ∀ c, FCok P G rf c (fC P G c).run) (f : Nat) {cl : CLf} (hcl : CFok P G rf cl) (m : Nat) {args : AV} {H : Hp} {nx : Nat} {kc : KC} {r : AV} {H1 : Hp} {nx1 : Nat} (h : (fFn P G rf f).run cl m args H nx kc = .ok r H1 nx1) :
    ∃ v H' nx', CallR P G rf f args H nx v H' nx' ∧ kc v H' nx' = .ok r H1 nx1 := by
  unfold fFn at h
  split at h
  · cases h
  · rename_i x hf
    simp only [fExtn] at h
    split at h
    · rename_i a H' nx' e
      refine ⟨a, H', nx', ⟨0, fun n _ => ?_⟩, h⟩
      rw [callA_eq, hf]
      simp only [e]
    · cases h
  · rename_i c N res hf
    obtain ⟨tm, hi, h⟩ := optE_ok h
    rw [initK_eq] at hi
    obtain ⟨x, tm1, H2, nx2, ds1, ⟨n1, q1⟩, e⟩ := hc c cl hcl _ _ _ _ _ _ _ _ _ _ h
    have fin : x ≤ 1 → fEnd rf res kc tm1 H2 nx2 ds1 = .ok r H1 nx1 → ∃ v H' nx', CallR P G rf f args H nx v H' nx' ∧ kc v H' nx' = .ok r H1 nx1 := by
      intro hx h
      obtain ⟨u, H', nx', l, e1, e2, e3⟩ := end_ok h
      refine ⟨resOf l, H', nx', ⟨n1, fun n hn => ?_⟩, e3⟩
      rw [callA_eq, hf]
      have : Nat.ble x 1 = true := Nat.ble_eq_true_of_le hx
      simp only [hi, q1 n hn, this, cond_true, e1, e2]
    rcases e with ⟨rfl, e⟩ | ⟨hx, e⟩
    · exact fin (by omega) e
    · unfold fRetK at e
      cases hb : Nat.beq x 1 with
      | true => rw [hb] at e; exact fin (by rw [Nat.eq_of_beq_eq_true hb]; exact Nat.le_refl _) e
      | false => rw [hb] at e; cases e

theorem fFnN_eq (f : Nat) : fFnN P G rf f = fFn P G rf f := by cases f <;> rfl
theorem fcall_ok (hc : ∀ c, FCok P G rf c (fC P G c).run) (m : Nat) : ∀ n, CFok P G rf (fcall P G rf m n) := by
  intro n
  induction n with
  | zero => intro f args H nx kc r H1 nx1 h; cases h
  | succ n ih =>
    intro f args H nx kc r H1 nx1 h
    have h : (fFnN P G rf f).run (fcall P G rf m n) m args H nx kc = .ok r H1 nx1 := h
    rw [fFnN_eq] at h
    exact fn_ok hc f ih m h
end Go.Ev

namespace Go.Ev
variable {P : Program} {G rf : Nat}

theorem opA_acts' {ih : Nat → AV → Hp → Nat → VRes} {ce : CE} {k : Kont} {tm : T AV} {H : Hp} {nx : Nat} {ds : DS} {j : Nat} (hg : holdsG tm ce.guard = some true) (hkd : ce.kd = j + 3) :
    opA P G ih ce tm H nx ds k = (match heavyA P G ce.co tm H nx with
              | .no => ER.no
              | .v a H nx => (match putD tm ce.dst a with | some tm => bif chkA P tm H ce.chk then k tm H nx ds else ER.no | none => ER.no)
              | .call f args => (match ih f args H nx with
                | .no => ER.no
                | .ok a H nx => (match putD tm ce.dst a with | some tm => bif chkA P tm H ce.chk then k tm H nx ds else ER.no | none => ER.no))
              | .defer f args => (match putD tm ce.dst undefA with | some tm => bif chkA P tm H ce.chk then k tm H nx ((f, args) :: ds) else ER.no | none => ER.no)) := by
  unfold opA
  rw [hg, hkd]
  rfl
theorem opA_new {ih : Nat → AV → Hp → Nat → VRes} {ce : CE} {k : Kont} {tm : T AV} {H : Hp} {nx : Nat} {ds : DS} (hg : holdsG tm ce.guard = some true) (hkd : ce.kd = 2) :
    opA P G ih ce tm H nx ds k = (match newA ce.co tm nx with
              | none => ER.no
              | some (v, o) => (match H.put nx o, putD tm ce.dst v with | some H, some tm => k tm H (Nat.succ nx) ds | _, _ => .no)) := by
  unfold opA
  rw [hg, hkd]
  rfl

/-- any operation but a call: whatever follows -/
theorem opA_uniform {ce : CE} {tm : T AV} {H : Hp} {nx : Nat} {ds : DS} {x : Nat} {tm' : T AV} {H' : Hp} {nx' : Nat} {ds' : DS}
    (h : opA P G (fun _ _ _ _ => .no) ce tm H nx ds (fun tm H nx ds => .ok 0 tm H nx ds) = .ok x tm' H' nx' ds') : ∀ ih k, opA P G ih ce tm H nx ds k = k tm' H' nx' ds' := by
  intro ih k
  cases hg : holdsG tm ce.guard with
  | none => unfold opA at h; rw [hg] at h; cases h
  | some b =>
    cases b with
    | false =>
      rw [opA_not hg] at h ⊢
      split at h
      · rename_i t e; cases h; rfl
      · cases h
    | true =>
      rcases (by omega : ce.kd = 0 ∨ ce.kd = 1 ∨ ce.kd = 2 ∨ 3 ≤ ce.kd) with hk | hk | hk | hk
      · rw [opA_pure hg hk] at h ⊢
        split at h
        · rename_i v e1
          split at h
          · rename_i t e2; cases h; simp only [e1, e2]
          · cases h
        · cases h
      · rw [opA_read hg hk] at h ⊢
        split at h
        · rename_i v e1
          split at h
          · rename_i t e2; cases h; simp only [e1, e2]
          · cases h
        · cases h
      · rw [opA_new hg hk] at h ⊢
        split at h
        · cases h
        · rename_i v o e1
          split at h
          · rename_i H2 t e2 e3; cases h; simp only [e1, e2, e3]
          · cases h
      · obtain ⟨j, hk⟩ : ∃ j, ce.kd = j + 3 := ⟨ce.kd - 3, by omega⟩
        rw [opA_acts' hg hk] at h ⊢
        split at h
        · cases h
        · rename_i v H2 nx2 e1
          split at h
          · rename_i t e2
            cases hc : chkA P t H2 ce.chk <;> rw [hc] at h
            · cases h
            · cases h; simp only [e1, e2, hc, cond_true]
          · cases h
        · cases h
        · rename_i f args e1
          split at h
          · rename_i t e2
            cases hc : chkA P t H ce.chk <;> rw [hc] at h
            · cases h
            · cases h; simp only [e1, e2, hc, cond_true]
          · cases h

theorem gen_ok (ce : CE) {k : K} {tm : T AV} {H : Hp} {nx : Nat} {ds : DS} {r : AV} {H1 : Hp} {nx1 : Nat} (h : fGen P G ce k tm H nx ds = .ok r H1 nx1) :
    ∃ tm' H' nx' ds', OpR P G rf ce tm H nx ds tm' H' nx' ds' ∧ k tm' H' nx' ds' = .ok r H1 nx1 := by
  unfold fGen at h
  cases e : opA P G (fun _ _ _ _ => .no) ce tm H nx ds (fun tm H nx ds => .ok 0 tm H nx ds) with
  | no => rw [e] at h; cases h
  | ok x tm' H' nx' ds' =>
    rw [e] at h
    cases x with
    | zero => exact ⟨tm', H', nx', ds', ⟨0, fun n _ k' => opA_uniform e _ k'⟩, h⟩
    | succ x => cases h

theorem small_lt {i : Nat} (h : small i = true) : i < 4096 := Nat.le_of_ble_eq_true h
theorem gt_rec (A : Ac (T AV) (Option AV)) : (Ac.rec (motive := fun _ => Gt) gtOf A : Gt).g = A.get := by cases A; rfl
theorem sd_rec (i : Nat) (A : Ac (T AV) (Option AV)) : (Ac.rec (motive := fun _ => Sd) (sdOf i) A : Sd) = ⟨fun tm v => A.set tm (some v), small i⟩ := by cases A; rfl
theorem mkG_eq (x : CO) (tm : T AV) : (mkG x).g tm = opd tm x := by
  cases x with
  | c u => rfl
  | t i =>
    show (Bool.rec (motive := fun _ => Gt) ⟨fun tm => tm.get i⟩ (Ac.rec (motive := fun _ => Gt) gtOf (T.acc AV i)) (small i) : Gt).g tm = tm.get i
    cases hs : small i with
    | false => rfl
    | true =>
      have hi := small_lt hs
      show (Ac.rec (motive := fun _ => Gt) gtOf (T.acc AV i) : Gt).g tm = tm.get i
      rw [gt_rec, T.get_in (by omega), T.acc_eq (by omega)]
theorem mkG_ok (x : CO) (tm : T AV) (v : AV) (h : (mkG x).g tm = some v) : opd tm x = some v := by rw [← mkG_eq]; exact h
theorem mkL_eq (xs : List CO) (tm : T AV) : (mkL xs).g tm = opds tm xs := by
  induction xs with
  | nil => rfl
  | cons x l ih =>
    show lC (mkG x) (mkL l) tm = _
    unfold lC
    rw [mkG_eq, ih]
    simp only [opds]
    cases opd tm x <;> cases opds tm l <;> rfl
theorem mkS_ok {d : Option Nat} (h : (mkS d).ok = true) (tm : T AV) (v : AV) : putD tm d v = some ((mkS d).s tm v) := by
  cases d with
  | none => rfl
  | some i =>
    have e0 : mkS (some i) = (Ac.rec (motive := fun _ => Sd) (sdOf i) (T.acc AV i) : Sd) := rfl
    rw [e0, sd_rec] at h ⊢
    have hi := small_lt (i := i) h
    obtain ⟨t', e⟩ := T.put_of (t := tm) (x := v) (i := i) (by omega)
    show tm.put i v = _
    rw [e]
    obtain ⟨_, e2⟩ := T.put_in e
    rw [e2, T.acc_eq (by omega)]

/-! what a value is -/
theorem asBool_ok (v : AV) (c : Bool → VRes) (r : AV) (H1 : Hp) (nx1 : Nat) (h : vBool v c .no = .ok r H1 nx1) : ∃ b, v = .bool b ∧ c b = .ok r H1 nx1 := by
  cases v <;> first | exact ⟨_, rfl, h⟩ | cases h
theorem asBool_or {v : AV} {c : Bool → VRes} {d : VRes} {r : AV} {H1 : Hp} {nx1 : Nat} (h : vBool v c d = .ok r H1 nx1) : (∃ b, v = .bool b ∧ c b = .ok r H1 nx1) ∨ d = .ok r H1 nx1 := by
  cases v <;> first | exact .inl ⟨_, rfl, h⟩ | exact .inr h
theorem asInt_or {v : AV} {c : IntKind → Int → VRes} {d : VRes} {r : AV} {H1 : Hp} {nx1 : Nat} (h : vInt v c d = .ok r H1 nx1) : (∃ k n, v = .int k n ∧ c k n = .ok r H1 nx1) ∨ d = .ok r H1 nx1 := by
  cases v <;> first | exact .inl ⟨_, _, rfl, h⟩ | exact .inr h
theorem asPtr_or {v : AV} {c : Nat → Nat → VRes} {d : VRes} {r : AV} {H1 : Hp} {nx1 : Nat} (h : vPtr v c d = .ok r H1 nx1) : (∃ k n, v = .ptr k n ∧ c k n = .ok r H1 nx1) ∨ d = .ok r H1 nx1 := by
  cases v <;> first | exact .inl ⟨_, _, rfl, h⟩ | exact .inr h
theorem asSl_or {v : AV} {c : Nat → Nat → Nat → VRes} {d : VRes} {r : AV} {H1 : Hp} {nx1 : Nat} (h : vSl v c d = .ok r H1 nx1) : (∃ a b n q, v = .sl a b n q ∧ c a b n = .ok r H1 nx1) ∨ d = .ok r H1 nx1 := by
  cases v <;> first | exact .inl ⟨_, _, _, _, rfl, h⟩ | exact .inr h
theorem asTup_or {v : AV} {c : AV → VRes} {d : VRes} {r : AV} {H1 : Hp} {nx1 : Nat} (h : vTup v c d = .ok r H1 nx1) : (∃ l, v = .tup l ∧ c l = .ok r H1 nx1) ∨ d = .ok r H1 nx1 := by
  cases v <;> first | exact .inl ⟨_, rfl, h⟩ | exact .inr h
theorem no_ok {r : AV} {H1 : Hp} {nx1 : Nat} (h : VRes.no = .ok r H1 nx1) : False := by cases h

/-- a pure operation done quickly -/
theorem pure_op {ce : CE} {tm : T AV} {H : Hp} {nx : Nat} {ds : DS} {v : AV} (hg : ce.guard = none) (hk : ce.kd = 0) (hs : (mkS ce.dst).ok = true) (hv : pureA P ce.co tm = some v) :
    OpR P G rf ce tm H nx ds ((mkS ce.dst).s tm v) H nx ds :=
  ⟨0, fun n _ k => by rw [opA_pure (by rw [hg]; rfl) hk, hv]; simp only [mkS_ok hs]⟩
theorem read_op {ce : CE} {tm : T AV} {H : Hp} {nx : Nat} {ds : DS} {v : AV} (hg : ce.guard = none) (hk : ce.kd = 1) (hs : (mkS ce.dst).ok = true) (hv : readA P ce.co tm H = some v) :
    OpR P G rf ce tm H nx ds ((mkS ce.dst).s tm v) H nx ds :=
  ⟨0, fun n _ k => by rw [opA_read (by rw [hg]; rfl) hk, hv]; simp only [mkS_ok hs]⟩
end Go.Ev

namespace Go.Ev
variable {P : Program} {G rf : Nat}

theorem fgen_ok (ce : CE) : FoOK P G rf ce (fun _ => fGen P G ce) := fun _ _ _ _ _ _ _ _ _ _ h => gen_ok ce h

theorem fcallop_ok (ce : CE) (hk : 3 ≤ ce.kd) : FoOK P G rf ce (fCall P G ce) := by
  intro cl hcl k tm H nx ds r H1 nx1 h
  unfold fCall at h
  split at h
  · rename_i hg
    split at h
    · rename_i f args e
      obtain ⟨v, H', nx', ⟨n0, q⟩, e1⟩ := hcl _ _ _ _ _ _ _ _ h
      split at e1
      · rename_i tm' e2
        obtain ⟨e3, e4⟩ := boE_ok e1
        refine ⟨tm', H', nx', ds, ⟨n0, fun n hn k' => ?_⟩, e4⟩
        obtain ⟨j, hj⟩ : ∃ j, ce.kd = j + 3 := ⟨ce.kd - 3, by omega⟩
        rw [opA_acts' hg hj, e]
        simp only [q n hn, e2, e3, cond_true]
      · cases e1
    · cases h
  · exact gen_ok ce h

theorem li1_ok {ce : CE} {A : K → K} (h : FoOK P G rf ce (fun _ => A)) : LiOK P G rf ce (li1 A) := ⟨_, h, fun _ _ _ => rfl⟩
theorem li2_ok {ce : CE} {A : CLf → K → K} (h : FoOK P G rf ce A) : LiOK P G rf ce (li2 A) := ⟨_, h, fun _ _ _ => rfl⟩
theorem slow_ok (ce : CE) : LiOK P G rf ce (fSlow P G ce) := by
  unfold fSlow
  cases h : (isCall ce.co && Nat.ble 3 ce.kd) with
  | false => exact li1_ok (fgen_ok ce)
  | true =>
    simp only [Bool.and_eq_true] at h
    exact li2_ok (fcallop_ok ce (Nat.le_of_ble_eq_true h.2))

theorem fillK_eq : ∀ (l : List (Nat × Nat × CO)) (tm : T AV) (z : AV), fillK tm z l = fillL tm z l
  | [], _, _ => rfl
  | (off, size, x) :: l, tm, z => by
    show fkC (off, size, x) tm (fun z => fillK tm z l) z = _
    unfold fkC
    rw [mkG_eq]
    simp only [fillL]
    cases opd tm x with
    | none => rfl
    | some v =>
      show (Bool.rec (motive := fun _ => Option AV) none (Option.rec (motive := fun _ => Option AV) none (fun z => fillK tm z l) (setL z off v.cells)) (Nat.beq v.cells.len size) : Option AV) = (bif Nat.beq v.cells.len size then (match setL z off v.cells with | some z => fillL tm z l | none => none) else none)
      cases Nat.beq v.cells.len size with
      | false => rfl
      | true =>
        simp only [cond_true]
        cases setL z off v.cells with
        | none => rfl
        | some z' => exact fillK_eq l tm z'
theorem srcK_eq (H : Hp) (size : Nat) (x : AV) : srcK H size x = srcA H size x := by unfold srcK srcA; simp only [rdK_eq] <;> rfl
theorem appendK_eq (H : Hp) (nx size e : Nat) (s x : AV) : appendK G H nx size e s x = appendA G H nx size e s x := by
  unfold appendK appendA
  simp only [srcK_eq, rdK_eq, wrAtK_eq, rowK_eq, getK_eq, putK_eq, allOneK_eq] <;> rfl
theorem pureK_eq (co : COp) (tm : T AV) : (pureK P co).f tm = pureA P co tm := by
  cases co <;> simp only [pureK, pu_mv, pu_pick, pu_bin, pu_eq, pu_not, pu_neg, pu_toInt, pu_nilchk, pu_iface, pu_func, pu_faddr, pu_field, pu_fields, pu_idxA, pu_idxS, pu_idxStr, pu_idxV, pu_idxVs, pu_build, pu_slStr, pu_slArr, pu_extract, pu_asC, pu_asI, pu_load, pu_loads, pu_slice, pu_len, pu_lenC, pu_cap, pu_lookup, pu_toStr, pu_bytesStr, pu_toUp, pu_fromUp, pu_sdata, pu_alloc, pu_box, pu_bslice, pu_mkmap, pu_mkslice, pu_toBytes, pu_store, pu_mapupd, pu_range, pu_next, pu_append, pu_copy, pu_delete, pu_minmax, pu_ustr, pu_call, pu_defer, mkG_eq, mkL_eq, fillK_eq, srcK_eq, rdK_eq, wrAtK_eq, rowK_eq, getK_eq, putK_eq, allOneK_eq, appendK_eq] <;> rfl
theorem readK_eq (co : COp) (tm : T AV) (H : Hp) : (readK P co).f tm H = readA P co tm H := by
  cases co <;> simp only [readK, ru_mv, ru_pick, ru_bin, ru_eq, ru_not, ru_neg, ru_toInt, ru_nilchk, ru_iface, ru_func, ru_faddr, ru_field, ru_fields, ru_idxA, ru_idxS, ru_idxStr, ru_idxV, ru_idxVs, ru_build, ru_slStr, ru_slArr, ru_extract, ru_asC, ru_asI, ru_load, ru_loads, ru_slice, ru_len, ru_lenC, ru_cap, ru_lookup, ru_toStr, ru_bytesStr, ru_toUp, ru_fromUp, ru_sdata, ru_alloc, ru_box, ru_bslice, ru_mkmap, ru_mkslice, ru_toBytes, ru_store, ru_mapupd, ru_range, ru_next, ru_append, ru_copy, ru_delete, ru_minmax, ru_ustr, ru_call, ru_defer, mkG_eq, mkL_eq, fillK_eq, srcK_eq, rdK_eq, wrAtK_eq, rowK_eq, getK_eq, putK_eq, allOneK_eq, appendK_eq] <;> rfl
theorem newK_eq (co : COp) (tm : T AV) (nx : Nat) : (newK co).f tm nx = newA co tm nx := by
  cases co <;> simp only [newK, nu_mv, nu_pick, nu_bin, nu_eq, nu_not, nu_neg, nu_toInt, nu_nilchk, nu_iface, nu_func, nu_faddr, nu_field, nu_fields, nu_idxA, nu_idxS, nu_idxStr, nu_idxV, nu_idxVs, nu_build, nu_slStr, nu_slArr, nu_extract, nu_asC, nu_asI, nu_load, nu_loads, nu_slice, nu_len, nu_lenC, nu_cap, nu_lookup, nu_toStr, nu_bytesStr, nu_toUp, nu_fromUp, nu_sdata, nu_alloc, nu_box, nu_bslice, nu_mkmap, nu_mkslice, nu_toBytes, nu_store, nu_mapupd, nu_range, nu_next, nu_append, nu_copy, nu_delete, nu_minmax, nu_ustr, nu_call, nu_defer, mkG_eq, mkL_eq, fillK_eq, srcK_eq, rdK_eq, wrAtK_eq, rowK_eq, getK_eq, putK_eq, allOneK_eq, appendK_eq] <;> rfl
theorem heavyK_eq (co : COp) (tm : T AV) (H : Hp) (nx : Nat) : (heavyK P G co).f tm H nx = heavyA P G co tm H nx := by
  cases co with
  | range s x => cases s <;> simp only [heavyK, hu_range, mkG_eq] <;> rfl
  | next s x => cases s <;> simp only [heavyK, hu_next, mkG_eq] <;> rfl
  | call c xs => cases c <;> simp only [heavyK, hu_call, mkG_eq, mkL_eq, fillK_eq, srcK_eq, rdK_eq, wrAtK_eq, rowK_eq, getK_eq, putK_eq, allOneK_eq, appendK_eq] <;> rfl
  | _ => simp only [heavyK, hu_mv, hu_pick, hu_bin, hu_eq, hu_not, hu_neg, hu_toInt, hu_nilchk, hu_iface, hu_func, hu_faddr, hu_field, hu_fields, hu_idxA, hu_idxS, hu_idxStr, hu_idxV, hu_idxVs, hu_build, hu_slStr, hu_slArr, hu_extract, hu_asC, hu_asI, hu_load, hu_loads, hu_slice, hu_len, hu_lenC, hu_cap, hu_lookup, hu_toStr, hu_bytesStr, hu_toUp, hu_fromUp, hu_sdata, hu_alloc, hu_box, hu_bslice, hu_mkmap, hu_mkslice, hu_toBytes, hu_store, hu_mapupd, hu_append, hu_copy, hu_delete, hu_minmax, hu_ustr, hu_defer, mkG_eq, mkL_eq, fillK_eq, srcK_eq, rdK_eq, wrAtK_eq, rowK_eq, getK_eq, putK_eq, allOneK_eq, appendK_eq] <;> rfl

section
variable {ce : CE} (hg : ce.guard = none) (hs : (mkS ce.dst).ok = true)
include hg hs

theorem mv_ok {x : CO} (hc : ce.co = .mv x) (hk : ce.kd = 0) : FoOK P G rf ce (fun _ => fMv (mkG x) (mkS ce.dst)) := by
  intro cl hcl k tm H nx ds r H1 nx1 h
  obtain ⟨v, e, h⟩ := optE_ok h
  exact ⟨_, _, _, _, pure_op hg hk hs (by rw [hc]; exact mkG_ok _ _ _ e), h⟩
theorem load_ok {x : CO} (hc : ce.co = .load x) (hk : ce.kd = 1) : FoOK P G rf ce (fun _ => fLoad (mkG x) (mkS ce.dst)) := by
  intro cl hcl k tm H nx ds r H1 nx1 h
  obtain ⟨v, e, h⟩ := optE_ok h
  rcases asPtr_or h with ⟨id, off, rfl, h⟩ | h
  · obtain ⟨o, e2, h⟩ := optE_ok h
    cases o with
    | cells c n sz el =>
      obtain ⟨u, e3, h⟩ := optE_ok (o := c.get off) h
      exact ⟨_, _, _, _, read_op hg hk hs (by rw [hc]; simp only [readA, mkG_ok _ _ _ e, e2, e3]), h⟩
    | _ => exact (no_ok h).elim
  · exact (no_ok h).elim
theorem II_ok {f : IntKind → Int → Int → AV} {x y : CO} (hk : ce.kd = 0) (hp : ∀ tm k1 n m, opd tm x = some (.int k1 n) → opd tm y = some (.int k1 m) → pureA P ce.co tm = some (f k1 n m)) :
    FoOK P G rf ce (fun _ => fII P G f ce (mkG x) (mkG y) (mkS ce.dst)) := by
  intro cl hcl k tm H nx ds r H1 nx1 h
  obtain ⟨a, e1, h⟩ := optE_ok h
  obtain ⟨b, e2, h⟩ := optE_ok h
  change vInt a _ _ = _ at h
  rcases asInt_or h with ⟨k1, n, rfl, h⟩ | h
  · change vInt b _ _ = _ at h
    rcases asInt_or h with ⟨k2, m, rfl, h⟩ | h
    · change boE (Nat.beq (kcode k1) (kcode k2)) _ _ = _ at h
      obtain ⟨e3, h4⟩ := boE_ok h
      clear h
      cases kcode_inj e3
      exact ⟨_, _, _, _, pure_op hg hk hs (hp tm _ _ _ (mkG_ok _ _ _ e1) (mkG_ok _ _ _ e2)), h4⟩
    · exact gen_ok ce h
  · exact gen_ok ce h
theorem faddr_ok {off : Nat} {x : CO} (hc : ce.co = .faddr off x) (hk : ce.kd = 0) : FoOK P G rf ce (fun _ => fFaddr off (mkG x) (mkS ce.dst)) := by
  intro cl hcl k tm H nx ds r H1 nx1 h
  obtain ⟨v, e, h⟩ := optE_ok h
  rcases asPtr_or h with ⟨id, o, rfl, h⟩ | h
  · exact ⟨_, _, _, _, pure_op hg hk hs (by rw [hc]; simp only [pureA, mkG_ok _ _ _ e]), h⟩
  · exact (no_ok h).elim
theorem nil_ok {x : CO} (hc : ce.co = .nilchk x) (hk : ce.kd = 0) : FoOK P G rf ce (fun _ => fNil P G ce (mkG x) (mkS ce.dst)) := by
  intro cl hcl k tm H nx ds r H1 nx1 h
  obtain ⟨v, e, h⟩ := optE_ok h
  rcases asPtr_or h with ⟨id, o, rfl, h⟩ | h
  · exact ⟨_, _, _, _, pure_op hg hk hs (by rw [hc]; simp only [pureA, mkG_ok _ _ _ e]), h⟩
  · exact gen_ok ce h
theorem idxS_ok {z : Nat} {x i : CO} (hc : ce.co = .idxS z x i) (hk : ce.kd = 0) : FoOK P G rf ce (fun _ => fIdxS z (mkG x) (mkG i) (mkS ce.dst)) := by
  intro cl hcl k tm H nx ds r H1 nx1 h
  obtain ⟨v, e1, h⟩ := optE_ok h
  obtain ⟨j, e2, h⟩ := optE_ok h
  change vSl v _ _ = _ at h
  rcases asSl_or h with ⟨a, b, n, q, rfl, h⟩ | h
  · change vInt j _ _ = _ at h
    rcases asInt_or h with ⟨k1, m, rfl, h⟩ | h
    · cases m with
      | ofNat m =>
        obtain ⟨e3, h⟩ := boE_ok (b := Nat.blt m n) h
        refine ⟨_, _, _, _, pure_op hg hk hs ?_, h⟩
        rw [hc]
        simp only [pureA, mkG_ok _ _ _ e1, mkG_ok _ _ _ e2, natOf]
        rw [e3]; rfl
      | negSucc m => exact (no_ok h).elim
    · exact (no_ok h).elim
  · exact (no_ok h).elim
theorem pick_ok {c a b : CO} (hc : ce.co = .pick c a b) (hk : ce.kd = 0) : FoOK P G rf ce (fun _ => fPick (mkG c) (mkG a) (mkG b) (mkS ce.dst)) := by
  intro cl hcl k tm H nx ds r H1 nx1 h
  obtain ⟨v, e, h⟩ := optE_ok h
  obtain ⟨t, rfl, h⟩ := asBool_ok _ _ _ _ _ h
  cases t with
  | true =>
    obtain ⟨u, e2, h⟩ := optE_ok (o := (mkG a).g tm) h
    exact ⟨_, _, _, _, pure_op hg hk hs (by rw [hc]; simp only [pureA, mkG_ok _ _ _ e, mkG_ok _ _ _ e2]), h⟩
  | false =>
    obtain ⟨u, e2, h⟩ := optE_ok (o := (mkG b).g tm) h
    exact ⟨_, _, _, _, pure_op hg hk hs (by rw [hc]; simp only [pureA, mkG_ok _ _ _ e, mkG_ok _ _ _ e2]), h⟩
theorem toInt_ok {j : IntKind} {x : CO} (hc : ce.co = .toInt j x) (hk : ce.kd = 0) : FoOK P G rf ce (fun _ => fToInt P G j ce (mkG x) (mkS ce.dst)) := by
  intro cl hcl k tm H nx ds r H1 nx1 h
  obtain ⟨v, e, h⟩ := optE_ok h
  rcases asInt_or h with ⟨k1, n, rfl, h⟩ | h
  · exact ⟨_, _, _, _, pure_op hg hk hs (by rw [hc]; simp only [pureA, mkG_ok _ _ _ e]), h⟩
  · exact gen_ok ce h
theorem ext_op_ok {i : Nat} {x : CO} (hc : ce.co = .extract i x) (hk : ce.kd = 0) : FoOK P G rf ce (fun _ => fExt i (mkG x) (mkS ce.dst)) := by
  intro cl hcl k tm H nx ds r H1 nx1 h
  obtain ⟨v, e, h⟩ := optE_ok h
  rcases asTup_or h with ⟨l, rfl, h⟩ | h
  · obtain ⟨u, e2, h⟩ := optE_ok h
    exact ⟨_, _, _, _, pure_op hg hk hs (by rw [hc]; simp only [pureA, mkG_ok _ _ _ e]; exact e2), h⟩
  · exact (no_ok h).elim
theorem not_ok {x : CO} (hc : ce.co = .not x) (hk : ce.kd = 0) : FoOK P G rf ce (fun _ => fNot (mkG x) (mkS ce.dst)) := by
  intro cl hcl k tm H nx ds r H1 nx1 h
  obtain ⟨v, e, h⟩ := optE_ok h
  obtain ⟨t, rfl, h⟩ := asBool_ok _ _ _ _ _ h
  exact ⟨_, _, _, _, pure_op hg hk hs (by rw [hc]; simp only [pureA, mkG_ok _ _ _ e]), h⟩
theorem lenS_ok {x : CO} (hc : ce.co = .len .slice x) (hk : ce.kd = 1) : FoOK P G rf ce (fun _ => fLenS P G ce (mkG x) (mkS ce.dst)) := by
  intro cl hcl k tm H nx ds r H1 nx1 h
  obtain ⟨v, e, h⟩ := optE_ok h
  rcases asSl_or h with ⟨a, b, n, q, rfl, h⟩ | h
  · exact ⟨_, _, _, _, read_op hg hk hs (by rw [hc]; simp only [readA, mkG_ok _ _ _ e]), h⟩
  · exact gen_ok ce h

theorem alloc_ok {z : AV} {e : Nat} {c : T AV} (hc : ce.co = .alloc z e) (hk : ce.kd = 2) (hr : rowOf z = some c) : FoOK P G rf ce (fun _ => fAlloc c z.len e (mkS ce.dst)) := by
  intro cl hcl k tm H nx ds r H1 nx1 h
  obtain ⟨H', e1, h⟩ := optE_ok h
  refine ⟨(mkS ce.dst).s tm (.ptr nx 0), H', nx + 1, ds, ⟨0, fun n _ k' => ?_⟩, h⟩
  rw [opA_new (by rw [hg]; rfl) hk, hc]
  simp only [newA, hr, e1, mkS_ok hs]
omit hs in
theorem store_ok {a x : CO} (hc : ce.co = .store 1 a x) (hk : ce.kd = 3) (hchk : ce.chk = []) (hd : ce.dst = none) : FoOK P G rf ce (fun _ => fStore1 P G ce (mkG a) (mkG x)) := by
  intro cl hcl k tm H nx ds r H1 nx1 h
  obtain ⟨p, e1, h⟩ := optE_ok h
  obtain ⟨v, e2, h⟩ := optE_ok h
  change boE (oneA v) _ _ = _ at h
  cases ho : oneA v with
  | false => rw [ho] at h; exact gen_ok ce h
  | true =>
    rw [ho] at h
    change vPtr p _ _ = _ at h
    rcases asPtr_or h with ⟨id, off, rfl, h⟩ | h
    · change optE (H.get id) _ _ = _ at h
      obtain ⟨o, e3, h⟩ := optE_ok h
      cases o with
      | cells c n sz el =>
        change boE (Nat.ble G id) _ _ = _ at h
        obtain ⟨f1, h⟩ := boE_ok h
        change boE (Nat.ble (Nat.succ off) n) _ _ = _ at h
        obtain ⟨f2, h⟩ := boE_ok h
        change optE (c.put off v) _ _ = _ at h
        obtain ⟨c', f3, h⟩ := optE_ok h
        change optE (H.put id (.cells c' n sz el)) _ _ = _ at h
        obtain ⟨H', f4, h⟩ := optE_ok h
        refine ⟨tm, H', nx, ds, ⟨0, fun m _ k' => ?_⟩, h⟩
        rw [opA_acts' (j := 0) (by rw [hg]; rfl) hk, hc, hd, hchk]
        have hcell : v.cells = .cons v .nil := by cases v <;> first | rfl | (cases ho; done)
        have hw : wrAt G H id off v.cells = some H' := by
          unfold wrAt
          rw [e3, hcell]
          have hl : (AV.cons v .nil).len = 1 := rfl
          have ha : allOne (.cons v .nil) = true := by simp only [allOne, ho, cond_true]
          simp only [hl]
          rw [show Nat.add off 1 = Nat.succ off from rfl, f1, f2, ha]
          simp only [Bool.and_self, cond_true, putCells, f3, f4]
        have hl : v.cells.len = 1 := by rw [hcell]; rfl
        simp only [heavyA, mkG_ok _ _ _ e1, mkG_ok _ _ _ e2, hl]
        rw [show Nat.beq 1 1 = true from rfl, cond_true, hw]
        rfl
      | _ => exact (no_ok h).elim
    · exact (no_ok h).elim

theorem pu_ok (hk : ce.kd = 0) : FoOK P G rf ce (fun _ => fPu (pureK P ce.co) (mkS ce.dst)) := by
  intro cl hcl k tm H nx ds r H1 nx1 h
  have h : (Option.rec (motive := fun _ => VRes) .no (fun v => k ((mkS ce.dst).s tm v) H nx ds) ((pureK P ce.co).f tm) : VRes) = .ok r H1 nx1 := h
  rw [pureK_eq] at h
  cases e : pureA P ce.co tm with
  | none => rw [e] at h; cases h
  | some v => rw [e] at h; exact ⟨_, _, _, _, pure_op hg hk hs e, h⟩
theorem ru_ok (hk : ce.kd = 1) : FoOK P G rf ce (fun _ => fRu (readK P ce.co) (mkS ce.dst)) := by
  intro cl hcl k tm H nx ds r H1 nx1 h
  have h : (Option.rec (motive := fun _ => VRes) .no (fun v => k ((mkS ce.dst).s tm v) H nx ds) ((readK P ce.co).f tm H) : VRes) = .ok r H1 nx1 := h
  rw [readK_eq] at h
  cases e : readA P ce.co tm H with
  | none => rw [e] at h; cases h
  | some v => rw [e] at h; exact ⟨_, _, _, _, read_op hg hk hs e, h⟩
theorem nu_ok (hk : ce.kd = 2) : FoOK P G rf ce (fun _ => fNu (newK ce.co) (mkS ce.dst)) := by
  intro cl hcl k tm H nx ds r H1 nx1 h
  have h : (Option.rec (motive := fun _ => VRes) .no (fun vo => Option.rec (motive := fun _ => VRes) .no (fun H => k ((mkS ce.dst).s tm vo.1) H (Nat.succ nx) ds) (H.put nx vo.2)) ((newK ce.co).f tm nx) : VRes) = .ok r H1 nx1 := h
  rw [newK_eq] at h
  cases e : newA ce.co tm nx with
  | none => rw [e] at h; cases h
  | some vo =>
    obtain ⟨v, o⟩ := vo
    rw [e] at h
    have h : (Option.rec (motive := fun _ => VRes) .no (fun H => k ((mkS ce.dst).s tm v) H (Nat.succ nx) ds) (H.put nx o) : VRes) = .ok r H1 nx1 := h
    cases e2 : H.put nx o with
    | none => rw [e2] at h; cases h
    | some H2 =>
      rw [e2] at h
      refine ⟨(mkS ce.dst).s tm v, H2, Nat.succ nx, ds, ⟨0, fun n _ k' => ?_⟩, h⟩
      rw [opA_new (by rw [hg]; rfl) hk, e]
      simp only [e2, mkS_ok hs]
theorem huC_ok (hk : 3 ≤ ce.kd) : FoOK P G rf ce (fHuC P ce (heavyK P G ce.co) (mkS ce.dst)) := by
  intro cl hcl k tm H nx ds r H1 nx1 h
  unfold fHuC at h
  rw [heavyK_eq] at h
  obtain ⟨j, hj⟩ : ∃ j, ce.kd = j + 3 := ⟨ce.kd - 3, by omega⟩
  have hg' : holdsG tm ce.guard = some true := by rw [hg]; rfl
  cases e : heavyA P G ce.co tm H nx with
  | no => rw [e] at h; cases h
  | v a H2 nx2 =>
    rw [e] at h
    have h : boE (chkA P ((mkS ce.dst).s tm a) H2 ce.chk) (k ((mkS ce.dst).s tm a) H2 nx2 ds) .no = .ok r H1 nx1 := h
    obtain ⟨c1, h⟩ := boE_ok h
    refine ⟨_, _, _, _, ⟨0, fun n _ k' => ?_⟩, h⟩
    rw [opA_acts' hg' hj, e]
    simp only [mkS_ok hs, c1, cond_true]
  | call f args =>
    rw [e] at h
    have h : cl f args H nx (fun a H nx => boE (chkA P ((mkS ce.dst).s tm a) H ce.chk) (k ((mkS ce.dst).s tm a) H nx ds) .no) = .ok r H1 nx1 := h
    obtain ⟨v, H', nx', ⟨n0, q⟩, e1⟩ := hcl _ _ _ _ _ _ _ _ h
    obtain ⟨c1, e1⟩ := boE_ok e1
    refine ⟨(mkS ce.dst).s tm v, H', nx', ds, ⟨n0, fun n hn k' => ?_⟩, e1⟩
    rw [opA_acts' hg' hj, e]
    simp only [q n hn, mkS_ok hs, c1, cond_true]
  | defer f args =>
    rw [e] at h
    have h : boE (chkA P ((mkS ce.dst).s tm undefA) H ce.chk) (k ((mkS ce.dst).s tm undefA) H nx ((f, args) :: ds)) .no = .ok r H1 nx1 := h
    obtain ⟨c1, h⟩ := boE_ok h
    refine ⟨_, _, _, _, ⟨0, fun n _ k' => ?_⟩, h⟩
    rw [opA_acts' hg' hj, e]
    simp only [mkS_ok hs, c1, cond_true]
theorem hu_ok (hk : 3 ≤ ce.kd) (hchk : ce.chk = []) : FoOK P G rf ce (fHu (heavyK P G ce.co) (mkS ce.dst)) := by
  intro cl hcl k tm H nx ds r H1 nx1 h
  unfold fHu at h
  rw [heavyK_eq] at h
  obtain ⟨j, hj⟩ : ∃ j, ce.kd = j + 3 := ⟨ce.kd - 3, by omega⟩
  have hg' : holdsG tm ce.guard = some true := by rw [hg]; rfl
  cases e : heavyA P G ce.co tm H nx with
  | no => rw [e] at h; cases h
  | v a H2 nx2 =>
    rw [e] at h
    refine ⟨_, _, _, _, ⟨0, fun n _ k' => ?_⟩, h⟩
    rw [opA_acts' hg' hj, e]
    simp only [mkS_ok hs, hchk, chkA, cond_true]
  | call f args =>
    rw [e] at h
    obtain ⟨v, H', nx', ⟨n0, q⟩, e1⟩ := hcl _ _ _ _ _ _ _ _ h
    refine ⟨(mkS ce.dst).s tm v, H', nx', ds, ⟨n0, fun n hn k' => ?_⟩, e1⟩
    rw [opA_acts' hg' hj, e]
    simp only [q n hn, mkS_ok hs, hchk, chkA, cond_true]
  | defer f args =>
    rw [e] at h
    refine ⟨_, _, _, _, ⟨0, fun n _ k' => ?_⟩, h⟩
    rw [opA_acts' hg' hj, e]
    simp only [mkS_ok hs, hchk, chkA, cond_true]
theorem gK_ok : LiOK P G rf ce (gK P G ce (mkS ce.dst)) := by
  unfold gK
  have hcases : ce.kd = 0 ∨ ce.kd = 1 ∨ ce.kd = 2 ∨ ∃ j, ce.kd = j + 3 := by
    rcases (by omega : ce.kd = 0 ∨ ce.kd = 1 ∨ ce.kd = 2 ∨ 3 ≤ ce.kd) with h | h | h | h
    · exact .inl h
    · exact .inr (.inl h)
    · exact .inr (.inr (.inl h))
    · exact .inr (.inr (.inr ⟨ce.kd - 3, by omega⟩))
  rcases hcases with hk | hk | hk | ⟨j, hk⟩
  · have := li1_ok (pu_ok (P := P) (G := G) (rf := rf) hg hs hk)
    rw [hk]; exact this
  · have := li1_ok (ru_ok (P := P) (G := G) (rf := rf) hg hs hk)
    rw [hk]; exact this
  · have := li1_ok (nu_ok (P := P) (G := G) (rf := rf) hg hs hk)
    rw [hk]; exact this
  · have h1 := li2_ok (huC_ok (P := P) (G := G) (rf := rf) hg hs (show 3 ≤ ce.kd by omega))
    rw [hk]
    show LiOK P G rf ce (gK3 P G ce (mkS ce.dst))
    unfold gK3
    cases hc : ce.chk.isEmpty with
    | false => exact h1
    | true => exact li2_ok (hu_ok (P := P) (G := G) (rf := rf) hg hs (by omega) (List.isEmpty_iff.1 hc))

omit hg hs in
theorem opds_app {tm : T AV} : ∀ {xs : List CO} {args : AV}, opds tm xs = some args → args.app .nil = args
  | [], args, h => by cases h; rfl
  | x :: l, args, h => by
    simp only [opds] at h
    split at h
    · split at h
      · rename_i b e; cases h; simp only [AV.app, opds_app e]
      · cases h
    · cases h
theorem callF_ok {f : Nat} {xs : List CO} (hc : ce.co = .call (.val (.c (.fn (.func f) .nil .nil))) xs) (hk : ce.kd = 3) (hchk : ce.chk = []) : FoOK P G rf ce (fCallF f (mkL xs) (mkS ce.dst)) := by
  intro cl hcl k tm H nx ds r H1 nx1 h
  obtain ⟨args, e, h⟩ := optE_ok h
  rw [mkL_eq] at e
  obtain ⟨v, H', nx', ⟨n0, q⟩, e1⟩ := hcl _ _ _ _ _ _ _ _ h
  refine ⟨(mkS ce.dst).s tm v, H', nx', ds, ⟨n0, fun n hn k' => ?_⟩, e1⟩
  have hh : heavyA P G ce.co tm H nx = .call f args := by
    rw [hc]
    simp only [heavyA, opd, e, AV.app, opds_app e]
  rw [opA_acts' (j := 0) (by rw [hg]; rfl) hk, hh, hchk]
  simp only [q n hn, mkS_ok hs, chkA, cond_true]
end

theorem nilL_eq {v : AV} (h : nilL v = true) : v = .nil := by cases v <;> first | rfl | (cases h; done)

set_option maxHeartbeats 1000000 in
theorem plain_ok {ce : CE} (hg : ce.guard = none) (hs : (mkS ce.dst).ok = true) (hk : ce.kd = kind ce.co) : LiOK P G rf ce (fPlain P G ce (mkS ce.dst)) := by
  unfold fPlain
  cases hc : ce.co with
  | mv x => exact li1_ok (mv_ok hg hs hc (by rw [hk, hc]; rfl))
  | pick c a b => exact li1_ok (pick_ok hg hs hc (by rw [hk, hc]; rfl))
  | bin op x y =>
    have hk0 : ce.kd = 0 := by rw [hk, hc]; rfl
    cases op <;> first
      | exact gK_ok hg hs
      | exact li1_ok (II_ok (x := x) (y := y) hg hs hk0 (fun tm k1 n m e1 e2 => by rw [hc]; simp only [pureA, e1, e2, binA, kcode_self, cond_true, intOp]; rfl))
  | eq ng k x y =>
    have hk0 : ce.kd = 0 := by rw [hk, hc]; rfl
    show LiOK P G rf ce (fEq P G ce ng k x y (mkS ce.dst))
    unfold fEq
    split
    · cases ng with
      | true => exact li1_ok (II_ok (x := x) (y := y) hg hs hk0 (fun tm k1 n m e1 e2 => by rw [hc]; simp only [pureA, e1, e2, eqKA, eqSA, kcode_self, cond_true]; rfl))
      | false => exact li1_ok (II_ok (x := x) (y := y) hg hs hk0 (fun tm k1 n m e1 e2 => by rw [hc]; simp only [pureA, e1, e2, eqKA, eqSA, kcode_self, cond_true]; rfl))
    · exact gK_ok hg hs
  | not x => exact li1_ok (not_ok hg hs hc (by rw [hk, hc]; rfl))
  | toInt j x => exact li1_ok (toInt_ok hg hs hc (by rw [hk, hc]; rfl))
  | nilchk x => exact li1_ok (nil_ok hg hs hc (by rw [hk, hc]; rfl))
  | faddr off x => exact li1_ok (faddr_ok hg hs hc (by rw [hk, hc]; rfl))
  | idxS z x i => exact li1_ok (idxS_ok hg hs hc (by rw [hk, hc]; rfl))
  | extract i x => exact li1_ok (ext_op_ok hg hs hc (by rw [hk, hc]; rfl))
  | load x => exact li1_ok (load_ok hg hs hc (by rw [hk, hc]; rfl))
  | len k x =>
    show LiOK P G rf ce (fLen P G ce k x (mkS ce.dst))
    unfold fLen
    split
    · exact li1_ok (lenS_ok hg hs hc (by rw [hk, hc]; rfl))
    · exact gK_ok hg hs
  | alloc z e =>
    show LiOK P G rf ce (fAl P G ce z e (mkS ce.dst))
    unfold fAl
    split
    · rename_i c hr; exact li1_ok (alloc_ok hg hs hc (by rw [hk, hc]; rfl) hr)
    · exact gK_ok hg hs
  | store n a x =>
    show LiOK P G rf ce (fSt P G ce n a x (mkS ce.dst))
    unfold fSt
    cases h : (Nat.beq n 1 && ce.chk.isEmpty && !(isSomeN ce.dst)) with
    | false => exact gK_ok hg hs
    | true =>
      simp only [Bool.and_eq_true, Bool.not_eq_true'] at h
      obtain ⟨⟨h1, h2⟩, h3⟩ := h
      have e1 := Nat.eq_of_beq_eq_true h1
      subst e1
      have e3 : ce.dst = none := by cases hd : ce.dst with | none => rfl | some d => rw [hd] at h3; cases h3
      exact li1_ok (store_ok hg hc (by rw [hk, hc]; rfl) (List.isEmpty_iff.1 h2) e3)
  | call c xs =>
    have hk3 : ce.kd = 3 := by rw [hk, hc]; rfl
    show LiOK P G rf ce (fCa P G ce c xs (mkS ce.dst))
    unfold fCa
    cases h : ce.chk.isEmpty with
    | false => exact gK_ok hg hs
    | true =>
      simp only [cond_true]
      split
      · rename_i f first cap
        cases h2 : (nilL first && nilL cap) with
        | false => exact gK_ok hg hs
        | true =>
          simp only [Bool.and_eq_true] at h2
          have e1 := nilL_eq h2.1
          have e2 := nilL_eq h2.2
          subst e1; subst e2
          exact li2_ok (callF_ok hg hs hc hk3 (List.isEmpty_iff.1 h))
      · exact gK_ok hg hs
  | _ => exact gK_ok hg hs

theorem opA_ung {ih : Nat → AV → Hp → Nat → VRes} {ce : CE} {k : Kont} {tm : T AV} {H : Hp} {nx : Nat} {ds : DS} (hg : holdsG tm ce.guard = some true) : opA P G ih ce tm H nx ds k = opA P G ih ce.ung tm H nx ds k := by
  unfold opA
  rw [hg]
  rfl
theorem kindK_at (co : COp) : kindK co = kind co := by rw [kindK_eq]
theorem guard_ok {ce : CE} {g : Nat × Bool} (hg : ce.guard = some g) (hs : (mkS ce.dst).ok = true) (hk : ce.kd = kind ce.co) : LiOK P G rf ce ⟨lnG ce (mkG (.t g.1)) g.2 (mkS ce.dst) (fPlain P G ce.ung (mkS ce.dst))⟩ := by
  obtain ⟨F0, hF0, eF0⟩ := plain_ok (P := P) (G := G) (rf := rf) (ce := ce.ung) rfl hs hk
  refine ⟨fun cl k tm H nx ds => optE ((mkG (.t g.1)).g tm) (fun v => vBool v (fun b => boE (sameB g.2 b) (F0 cl k tm H nx ds) (k ((mkS ce.dst).s tm undefA) H nx ds)) (vTup v (fun _ => k ((mkS ce.dst).s tm undefA) H nx ds) .no)) .no, ?_, ?_⟩
  · intro cl hcl k tm H nx ds r H1 nx1 h
    obtain ⟨v, e, h⟩ := optE_ok h
    have e := mkG_ok _ _ _ e
    change tm.get g.1 = some v at e
    have skip : holdsG tm ce.guard = some false → k ((mkS ce.dst).s tm undefA) H nx ds = .ok r H1 nx1 → ∃ tm' H' nx' ds', OpR P G rf ce tm H nx ds tm' H' nx' ds' ∧ k tm' H' nx' ds' = .ok r H1 nx1 := by
      intro hh2 h
      refine ⟨(mkS ce.dst).s tm undefA, H, nx, ds, ⟨0, fun n _ k' => ?_⟩, h⟩
      rw [opA_not hh2, mkS_ok hs]
    change vBool v _ _ = _ at h
    rcases asBool_or h with ⟨b, rfl, h⟩ | h
    · have hh : holdsG tm ce.guard = some (b == g.2) := by rw [hg]; simp only [holdsG, e]
      change boE (sameB g.2 b) _ _ = _ at h
      cases hb : sameB g.2 b with
      | true =>
        rw [hb] at h
        have hh2 : holdsG tm ce.guard = some true := by rw [hh]; cases b <;> cases hw : g.2 <;> rw [hw] at hb <;> first | rfl | cases hb
        obtain ⟨tm', H', nx', ds', ⟨n0, q⟩, e2⟩ := hF0 cl hcl k tm H nx ds r H1 nx1 h
        exact ⟨tm', H', nx', ds', ⟨n0, fun n hn k' => by rw [opA_ung hh2]; exact q n hn k'⟩, e2⟩
      | false =>
        rw [hb] at h
        exact skip (by rw [hh]; cases b <;> cases hw : g.2 <;> rw [hw] at hb <;> first | rfl | cases hb) h
    · rcases asTup_or h with ⟨l, rfl, h⟩ | h
      · exact skip (by rw [hg]; simp only [holdsG, e]) h
      · exact (no_ok h).elim
  · intro r cl k
    funext tm H nx ds
    show fGuard ce (mkG (.t g.1)) g.2 (mkS ce.dst) ((fPlain P G ce.ung (mkS ce.dst)).link r) r cl k tm H nx ds = _
    unfold fGuard
    have e1 : ((fPlain P G ce.ung (mkS ce.dst)).link r).run cl k = F0 cl (r.run cl k) := eF0 r cl k
    rw [e1]
    rfl
theorem op_ok (ce : CE) : LiOK P G rf ce (fOp P G ce) := by
  unfold fOp
  cases hg : ce.guard with
  | some g =>
    show LiOK P G rf ce (Bool.rec (motive := fun _ => Li) (fSlow P G ce) ⟨lnG ce (mkG (.t g.1)) g.2 (mkS ce.dst) (fPlain P G ce.ung (mkS ce.dst))⟩ (bz (mkS ce.dst).ok (Nat.beq ce.kd (kindK ce.co)) false))
    cases h : bz (mkS ce.dst).ok (Nat.beq ce.kd (kindK ce.co)) false with
    | false => exact slow_ok ce
    | true =>
      cases hs : (mkS ce.dst).ok with
      | false => rw [hs] at h; cases h
      | true =>
        rw [hs] at h
        exact guard_ok hg hs (by rw [← kindK_at]; exact Nat.eq_of_beq_eq_true h)
  | none =>
    show LiOK P G rf ce (Bool.rec (motive := fun _ => Li) (fSlow P G ce) (fPlain P G ce (mkS ce.dst)) (bz (mkS ce.dst).ok (Nat.beq ce.kd (kindK ce.co)) false))
    cases h : bz (mkS ce.dst).ok (Nat.beq ce.kd (kindK ce.co)) false with
    | false => exact slow_ok ce
    | true =>
      cases hs : (mkS ce.dst).ok with
      | false => rw [hs] at h; cases h
      | true =>
        rw [hs] at h
        exact plain_ok hg hs (by rw [← kindK_at]; exact Nat.eq_of_beq_eq_true h)

/-- the quick one's calls are sound -/
theorem fast_ok (hev : ∀ n, CallOK P G (fun f args H nx => evCall P G rf n f args H nx)) (m n : Nat) : CallOK P G (fun f args H nx => fcall P G rf m n f args H nx fin) := by
  intro f args H nx v H' nx' h env w xs
  obtain ⟨v0, H0, nx0, ⟨n0, q⟩, e⟩ := fcall_ok (fc_ok op_ok mkG_ok asBool_ok) m n f args H nx fin _ _ _ h
  cases e
  exact hev n0 f args H nx _ _ _ (q n0 (Nat.le_refl _)) env w xs
end Go.Ev

namespace Go.Ev
variable {P : Program} {G rf : Nat}
theorem evT_ok {cf : Nat → AV → Hp → Nat → VRes} (hcf : CallOK P G cf) (hdraw : DrawOK P G cf) : ∀ n, EvOK P G (evT P G cf n) := by
  intro n
  induction n with
  | zero =>
    intro N c env tm H nx ds a w x tm1 H1 nx1 ds1 hst h
    cases h
  | succ n ih => exact stepC_ok ih hcf hdraw

theorem top_ok (hrf : RfOK P rf) (hext : ExtOK P G) (hname : ∀ (f : Nat) (fn : Func), P.funcs[f]? = some fn → fn.body.isSome = true → (fn.name == "runtime.NumGoroutine") = false)
    (hdraw : ∀ ih, CallOK P G ih → DrawOK P G ih) (m : Nat) : CallOK P G (fun f args H nx => topA P G rf m f args H nx) := by
  have h1 := fast_ok (P := P) (G := G) (rf := rf) (fun n => evCall_ok hrf hext hname hdraw n) m 1000
  exact call_ok (n := m) hrf hext hname (evT_ok h1 (hdraw _ h1) m)

theorem sameS_eq {a b : Option AV} (h : sameS a b = true) : a = b := by
  unfold sameS at h
  split at h
  · rename_i x y; rw [eq_of_beq h]
  · cases h
theorem SR_quiet {env : Env} {H : Hp} {w w' : World} (hs : SR env H G w) (hsz : w.heap.size ≤ w'.heap.size) (hf : ∀ b, b < w.heap.size → w'.heap[b]? = w.heap[b]?) : SR env H G w' :=
  ⟨fun id L o h1 h2 => by rw [hf L.b (hs.bnd id L h1).1]; exact hs.obj id L o h1 h2, fun id L h => ⟨Nat.lt_of_lt_of_le (hs.bnd id L h).1 hsz, (hs.bnd id L h).2⟩, hs.inj, hs.top⟩

/-- the heap of the start, as it is reckoned with -/
structure Start (G g n e : Nat) (c0 : T AV) (H0 : Hp) : Prop where
  at_ : H0.get g = some (.cells c0 n 0 e)
  lt : g < G
  dead : ∀ id o, H0.get id = some o → id = g ∨ (id < G ∧ o = .dead)
  cells : ∀ i v, c0.get i = some v → i < n

theorem start_of {g n e : Nat} {c0 : T AV} {H0 H : Hp} (st : Start G g n e c0 H0) (ho : heapOK g n e c0 H = true) {env : Env} {w : World} (hg : GL G env) (hs : SR env H G w) : SR env H0 G w := by
  have key : ∃ c, H.get g = some (.cells c n 0 e) ∧ ∀ i, i < n → c.get i = c0.get i := by
    unfold heapOK at ho
    split at ho
    · rename_i c m sz t h
      simp only [Bool.and_eq_true] at ho
      obtain ⟨⟨⟨h1, h2⟩, h3⟩, h4⟩ := ho
      have e1 := Nat.eq_of_beq_eq_true h1
      have e2 := Nat.eq_of_beq_eq_true h2
      have e3 := Nat.eq_of_beq_eq_true h3
      subst e1; subst e2; subst e3
      exact ⟨c, h, fun i hi => sameS_eq (List.all_eq_true.1 h4 i (List.mem_range.2 hi))⟩
    · cases ho
  obtain ⟨c, hc, hcc⟩ := key
  refine ⟨fun id L o hL ho' => ?_, hs.bnd, fun id id' L L' o o' hL hL' ho1 ho2 l1 l2 e1 => ?_, fun id hid => ?_⟩
  · rcases st.dead id o ho' with rfl | ⟨hlt, rfl⟩
    · rw [st.at_] at ho'; cases ho'
      obtain ⟨ob, h1, arr, fr, h2, h3, h4, h5, h6, h7⟩ := hs.obj id L _ hL hc
      exact ⟨ob, h1, arr, fr, h2, h3, h4, h5, fun i v hv => h6 i v (by rw [hcc i (st.cells i v hv)]; exact hv), h7⟩
    · have hb := (hs.bnd id L hL).1
      exact ⟨w.heap[L.b], by simp [hb], trivial⟩
  · have k : ∀ id L, env id = some L → L.b = id := by
      intro id L h
      obtain ⟨L2, k1, k2, _⟩ := hg id (hs.bnd id L h).2
      rw [h] at k1; cases k1; exact k2
    rw [k id L hL, k id' L' hL'] at e1
    exact e1
  · cases hh : H0.get id with
    | none => rfl
    | some o =>
      rcases st.dead id o hh with rfl | ⟨hlt, _⟩
      · have := st.lt; omega
      · omega

theorem orA_ok {g n e a : Nat} {c0 : T AV} {H0 : Hp} (st : Start G g n e c0 H0) {ih tp : Nat → AV → Hp → Nat → VRes} (hih : CallOK P G ih) (htp : CallOK P G tp) (ht : okT (tp a .nil H0 G) = true) : CallOK P G (orA G g n e c0 a ih) := by
  intro f args H nx v H' nx' h env w xs hg hv hs
  unfold orA at h
  cases hb : (Nat.beq f a && nilA args && Nat.beq nx G && heapOK g n e c0 H) with
  | false => rw [hb] at h; exact hih f args H nx v H' nx' h env w xs hg hv hs
  | true =>
    rw [hb] at h
    cases h
    simp only [Bool.and_eq_true] at hb
    obtain ⟨⟨⟨h1, h2⟩, h3⟩, h4⟩ := hb
    have e1 := Nat.eq_of_beq_eq_true h1
    have e3 := Nat.eq_of_beq_eq_true h3
    subst e1; subst e3
    have e2 : args = .nil := by cases args <;> first | rfl | cases h2
    subst e2
    obtain ⟨H2, nx2, e⟩ := okT_spec ht
    have hs0 := start_of st h4 hg hs
    have fin : ∀ (c : Value) (w' : World), Gives nx env H0 nx w (.bool true) H2 nx2 c w' → Gives nx env H nx w (.bool true) H nx c w' := by
      rintro c w' ⟨env', q1, q2, q3⟩
      have hf : ∀ b, b < w.heap.size → w'.heap[b]? = w.heap[b]? := fun b hb => q3.frame b hb (fun id L hG hL => absurd (hs.bnd id L hL).2 (by omega))
      refine ⟨env, by simp only [VR] at q1 ⊢; exact q1, SR_quiet hs q3.size hf, ?_⟩
      exact ⟨Le.refl _, Nat.le_refl _, fun _ _ h => .inl h, fun _ _ _ => rfl, q3.size, fun b hb _ => hf b hb, q3.os, q3.tape, q3.output⟩
    rcases htp f .nil H0 nx _ H2 nx2 e env w xs hg hv hs0 with ⟨r1, r2⟩ | ⟨c, w', r1, r2⟩
    · refine .inl ⟨r1, r2.mono ?_⟩
      rintro e w' ⟨c, rfl, q⟩
      exact ⟨c, rfl, fin c w' q⟩
    · exact .inr ⟨c, w', r1, fin c w' r2⟩

theorem topO_ok {g n e a : Nat} {c0 : T AV} {H0 : Hp} (st : Start G g n e c0 H0) (hrf : RfOK P rf) (hext : ExtOK P G) (hname : ∀ (f : Nat) (fn : Func), P.funcs[f]? = some fn → fn.body.isSome = true → (fn.name == "runtime.NumGoroutine") = false)
    (hdraw : ∀ ih, CallOK P G ih → DrawOK P G ih) (m : Nat) (ht : okT (topA P G rf m a .nil H0 G) = true) : CallOK P G (fun f args H nx => topO P G rf m g n e c0 a f args H nx) := by
  have h1 := fast_ok (P := P) (G := G) (rf := rf) (fun n => evCall_ok hrf hext hname hdraw n) m 1000
  have h2 := orA_ok st h1 (top_ok hrf hext hname hdraw m) ht
  exact call_ok (n := m) hrf hext hname (evT_ok h2 (hdraw _ h2) m)
end Go.Ev

namespace Go.Ev
variable {P : Program} {G rf : Nat}
theorem hpT_get : ∀ {l : List (Nat × TO)} {H : Hp}, hpT l = some H → ∀ id o, H.get id = some o → ∃ t, (id, t) ∈ l ∧ o = toAO t
  | [], H, h, id, o, ho => by cases h; simp at ho
  | (i, t) :: l, H, h, id, o, ho => by
    simp only [hpT] at h
    split at h
    · rename_i H1 h1
      rw [T.get_put h] at ho
      split at ho
      · rename_i e; cases ho; subst e; exact ⟨t, List.mem_cons_self .., rfl⟩
      · obtain ⟨t', m, e⟩ := hpT_get h1 id o ho
        exact ⟨t', List.mem_cons_of_mem _ m, e⟩
    · cases h
theorem subL_get : ∀ {l : AV} {c : T AV} {i : Nat}, subL l c i = true → ∀ j v, l.nth j = some v → c.get (i + j) = some v := by
  intro l
  induction l with
  | cons h t _ ih =>
    intro c i hs j v hv
    simp only [subL] at hs
    split at hs
    · rename_i u hu
      simp only [Bool.and_eq_true] at hs
      cases j with
      | zero =>
        simp only [AV.nth, Option.some.injEq] at hv
        subst hv
        rw [Nat.add_zero, hu, sameAV_eq hs.1]
      | succ j =>
        simp only [AV.nth] at hv
        have := ih hs.2 j v hv
        rw [show i + (j + 1) = i.succ + j by omega]
        exact this
    · cases hs
  | nil => intro c i hs j v hv; cases j <;> cases hv
  | _ => intro c i hs j v hv; cases hs
theorem sameEs_eq : ∀ {l m : List Ent}, sameEs l m = true → l = m
  | [], [], _ => rfl
  | a :: l, b :: m, h => by
    simp only [sameEs, Bool.and_eq_true] at h
    obtain ⟨h1, h2, h3, h4⟩ := h
    have e1 := sameAV_eq h1
    have e2 := sameAV_eq h2
    have e3 := Nat.eq_of_beq_eq_true h3
    have e4 := sameEs_eq h4
    obtain ⟨ak, av, ab⟩ := a
    obtain ⟨bk, bv, bb⟩ := b
    subst e4
    simp only at e1 e2 e3
    rw [e1, e2, e3]
  | [], _ :: _, h => by cases h
  | _ :: _, [], h => by cases h
theorem rowD_get {l : AV} (hl : l.isRow = true) (i : Nat) (v : AV) (h : (rowD l).get i = some v) : i < l.len ∧ l.nth i = some v := by
  unfold rowD at h
  cases e : rowOf l with
  | none => rw [e] at h; simp at h
  | some c =>
    rw [e] at h
    have h : c.get i = some v := h
    rw [putCells_get hl e i] at h
    split at h
    · rename_i hi; exact ⟨by omega, by simpa using h⟩
    · simp at h
theorem rowQ_row : ∀ {l : AV}, rowQ l = true → l.isRow = true := by
  intro l
  induction l with
  | cons h t _ ih => intro h; exact ih h
  | nil => intro _; rfl
  | _ => intro h; cases h
theorem subT_OR {t : TO} {o : AO} (h : subT t (some o) = true) {env : Env} {L : Loc} {ob : Obj} (ho : OR env L o ob) : OR env L (toAO t) ob := by
  cases t with
  | cells n sz e l =>
    cases o with
    | cells c n' sz' e' =>
      simp only [subT, Bool.and_eq_true] at h
      obtain ⟨h1, h2, h3, h4, h5, h6⟩ := h
      have e1 := Nat.eq_of_beq_eq_true h1
      have e2 := Nat.eq_of_beq_eq_true h2
      have e3 := Nat.eq_of_beq_eq_true h3
      subst e1; subst e2; subst e3
      obtain ⟨arr, fr, q1, q2, q3, q4, q5, q6⟩ := ho
      refine ⟨arr, fr, q1, q2, q3, q4, fun i v hv => ?_, q6⟩
      obtain ⟨k1, k2⟩ := rowD_get (rowQ_row h5) i v hv
      have := subL_get h6 i v k2
      rw [Nat.zero_add] at this
      exact q5 i v this
    | _ => cases h
  | map es ck =>
    cases o with
    | map es' ck' =>
      simp only [subT, Bool.and_eq_true] at h
      have e1 := Nat.eq_of_beq_eq_true h.1
      have e2 := sameEs_eq h.2
      subst e1; subst e2
      exact ho
    | _ => cases h
theorem subT_live {t : TO} {o : AO} (h : subT t (some o) = true) : o.live = true := by
  cases t <;> cases o <;> first | rfl | cases h

theorem tellA_ok {g n e a nk : Nat} {c0 : T AV} {H0 Hk : Hp} {args0 v : AV} {tl : List (Nat × TO)} (st : Go.Ev.Start G g n e c0 H0) {ih tp : Nat → AV → Hp → Nat → VRes} (hih : CallOK P G ih) (htp : CallOK P G tp)
    (hH : hpT tl = some Hk) (ht : tellOK tl nk v (tp a args0 H0 G) = true) : CallOK P G (tellA G g n e c0 a args0 v Hk nk ih) := by
  intro f args H nx v1 H' nx' h env w xs hg hv hs
  unfold tellA at h
  cases hb : (Nat.beq f a && (sameAV 20 args args0 && (Nat.beq nx G && heapOK g n e c0 H))) with
  | false => rw [hb] at h; exact hih f args H nx v1 H' nx' h env w xs hg hv hs
  | true =>
    rw [hb] at h
    cases h
    simp only [Bool.and_eq_true] at hb
    obtain ⟨h1, h2, h3, h4⟩ := hb
    have e1 := Nat.eq_of_beq_eq_true h1
    have e2 := sameAV_eq h2
    have e3 := Nat.eq_of_beq_eq_true h3
    subst e1; subst e2; subst e3
    have hs0 := start_of st h4 hg hs
    cases hr : tp f args H0 nx with
    | no => rw [hr] at ht; cases ht
    | ok v2 H2 nx2 =>
      rw [hr] at ht
      simp only [tellOK, Bool.and_eq_true] at ht
      obtain ⟨t1, t2, t3⟩ := ht
      have f1 := sameAV_eq t1
      have f2 := Nat.eq_of_beq_eq_true t2
      subst f1; subst f2
      have key : ∀ id o, Hk.get id = some o → id < nx2 ∧ ∃ o2, H2.get id = some o2 ∧ o2.live = true ∧ ∀ env L ob, OR env L o2 ob → OR env L o ob := by
        intro id o ho
        obtain ⟨t, m, rfl⟩ := hpT_get hH id o ho
        have q := List.all_eq_true.1 t3 (id, t) m
        simp only [Bool.and_eq_true] at q
        cases e2 : H2.get id with
        | none => rw [e2] at q; cases t <;> cases q.2
        | some o2 =>
          rw [e2] at q
          exact ⟨Nat.le_of_ble_eq_true q.1, o2, rfl, subT_live q.2, fun env L ob h => subT_OR q.2 h⟩
      have fin : ∀ (c : Value) (w' : World), Gives nx env H0 nx w v H2 nx2 c w' → Gives nx env H nx w v Hk nx2 c w' := by
        rintro c w' ⟨env', q1, q2, q3⟩
        refine ⟨env', q1, ⟨fun id L o hL ho => ?_, q2.bnd, fun id id' L L' o o' hL hL' ho ho' _ _ he => ?_, fun id hid => ?_⟩, ⟨q3.le, q3.nxle, q3.news, fun id hid he => ?_, q3.size, q3.frame, q3.os, q3.tape, q3.output⟩⟩
        · obtain ⟨_, o2, k1, _, k3⟩ := key id o ho
          obtain ⟨ob, r1, r2⟩ := q2.obj id L o2 hL k1
          exact ⟨ob, r1, k3 _ _ _ r2⟩
        · obtain ⟨_, o2, k1, k2, _⟩ := key id o ho
          obtain ⟨_, o3, k4, k5, _⟩ := key id' o' ho'
          exact q2.inj id id' L L' o2 o3 hL hL' k1 k4 k2 k5 he
        · cases hh : Hk.get id with
          | none => rfl
          | some o => have := (key id o hh).1; omega
        · obtain ⟨L, k1, _⟩ := hg id hid
          rw [he] at k1; cases k1
      rcases htp f args H0 nx _ H2 nx2 hr env w xs hg hv hs0 with ⟨r1, r2⟩ | ⟨c, w', r1, r2⟩
      · refine .inl ⟨r1, r2.mono ?_⟩
        rintro e w' ⟨c, rfl, q⟩
        exact ⟨c, rfl, fin c w' q⟩
      · exact .inr ⟨c, w', r1, fin c w' r2⟩

theorem topT_ok {g n e a b nk : Nat} {c0 : T AV} {H0 : Hp} {args0 v : AV} {tl : List (Nat × TO)} (st : Go.Ev.Start G g n e c0 H0) (hrf : RfOK P rf) (hext : ExtOK P G) (hname : ∀ (f : Nat) (fn : Func), P.funcs[f]? = some fn → fn.body.isSome = true → (fn.name == "runtime.NumGoroutine") = false)
    (hdraw : ∀ ih, CallOK P G ih → DrawOK P G ih) (m : Nat) (ht : okT (topA P G rf m a .nil H0 G) = true) (hH : isSomeH (hpT tl) = true) (htl : tellOK tl nk v (fcall P G rf m 1000 b args0 H0 G fin) = true) :
    CallOK P G (fun f args H nx => topT P G rf m g n e c0 a b args0 v (heapT tl) nk f args H nx) := by
  have h1 := fast_ok (P := P) (G := G) (rf := rf) (fun n => evCall_ok hrf hext hname hdraw n) m 1000
  have hH' : hpT tl = some (heapT tl) := by
    unfold heapT
    cases e : hpT tl with
    | none => rw [e] at hH; cases hH
    | some H => rfl
  have h2 := orA_ok st (tellA_ok (a := b) st h1 h1 hH' htl) (top_ok hrf hext hname hdraw m) ht
  exact call_ok (n := m) hrf hext hname (evT_ok h2 (hdraw _ h2) m)
end Go.Ev

namespace Go.Ev
variable {P : Program} {G rf : Nat}
theorem wideAV_ok {env : Env} {h u : AV} {x : Value} (hw : wideAV h u = true) (hv : VR env u x) : VR env h x := by
  unfold wideAV at hw
  split at hw
  · rename_i lo hi
    split at hw
    · rename_i n
      simp only [VR] at hv
      subst hv
      rw [ile_eq, ile_eq, Bool.and_eq_true, decide_eq_true_eq, decide_eq_true_eq] at hw
      exact ⟨n, rfl, fun l e => by cases e; exact hw.1, fun l e => by cases e; exact hw.2⟩
    · cases hw
  · rw [sameAV_eq hw]; exact hv
theorem subW_get : ∀ {l : AV} {c : T AV} {i : Nat}, subW l c i = true → ∀ j v, l.nth j = some v → ∃ u, c.get (i + j) = some u ∧ wideAV v u = true := by
  intro l
  induction l with
  | cons h t _ ih =>
    intro c i hs j v hv
    simp only [subW] at hs
    split at hs
    · rename_i u hu
      simp only [Bool.and_eq_true] at hs
      cases j with
      | zero =>
        simp only [AV.nth, Option.some.injEq] at hv
        subst hv
        exact ⟨u, by rw [Nat.add_zero]; exact hu, hs.1⟩
      | succ j =>
        simp only [AV.nth] at hv
        have := ih hs.2 j v hv
        rw [show i + (j + 1) = i.succ + j by omega]
        exact this
    · cases hs
  | nil => intro c i hs j v hv; cases j <;> cases hv
  | _ => intro c i hs j v hv; cases hs
theorem subX_OR {t : TO} {o : AO} (h : subX t (some o) = true) {env : Env} {L : Loc} {ob : Obj} (ho : OR env L o ob) : OR env L (toAO t) ob := by
  cases t with
  | cells n sz e l =>
    cases o with
    | cells c n' sz' e' =>
      simp only [subX, Bool.and_eq_true] at h
      obtain ⟨h1, h2, h3, h4, h5, h6⟩ := h
      have e1 := Nat.eq_of_beq_eq_true h1
      have e2 := Nat.eq_of_beq_eq_true h2
      have e3 := Nat.eq_of_beq_eq_true h3
      subst e1; subst e2; subst e3
      obtain ⟨arr, fr, q1, q2, q3, q4, q5, q6⟩ := ho
      refine ⟨arr, fr, q1, q2, q3, q4, fun i v hv => ?_, q6⟩
      obtain ⟨k1, k2⟩ := rowD_get (rowQ_row h5) i v hv
      obtain ⟨u, k3, k4⟩ := subW_get h6 i v k2
      rw [Nat.zero_add] at k3
      obtain ⟨g1, x, g2, g3⟩ := q5 i u k3
      exact ⟨g1, x, g2, wideAV_ok k4 g3⟩
    | _ => cases h
  | map es ck =>
    cases o with
    | map es' ck' =>
      simp only [subX, Bool.and_eq_true] at h
      have e1 := Nat.eq_of_beq_eq_true h.1
      have e2 := sameEs_eq h.2
      subst e1; subst e2
      exact ho
    | _ => cases h
theorem subX_live {t : TO} {o : AO} (h : subX t (some o) = true) : o.live = true := by
  cases t <;> cases o <;> first | rfl | cases h
theorem putTL_get : ∀ {l : List (Nat × TO)} {H H' : Hp}, putTL l H = some H' → ∀ id o, H'.get id = some o → (∃ t, (id, t) ∈ l ∧ o = toAO t) ∨ H.get id = some o
  | [], H, H', h, id, o, ho => by cases h; exact .inr ho
  | (i, t) :: l, H, H', h, id, o, ho => by
    simp only [putTL] at h
    split at h
    · rename_i H1 h1
      rw [T.get_put h] at ho
      split at ho
      · rename_i e; cases ho; subst e; exact .inl ⟨t, List.mem_cons_self .., rfl⟩
      · rcases putTL_get h1 id o ho with ⟨t', m, e⟩ | e
        · exact .inl ⟨t', List.mem_cons_of_mem _ m, e⟩
        · exact .inr e
    · cases h
theorem putTL_ne : ∀ {l : List (Nat × TO)} {H H' : Hp}, putTL l H = some H' → ∀ id, (∀ p ∈ l, p.1 ≠ id) → H'.get id = H.get id
  | [], H, H', h, id, hn => by cases h; rfl
  | (i, t) :: l, H, H', h, id, hn => by
    simp only [putTL] at h
    split at h
    · rename_i H1 h1
      rw [T.get_put_ne h (fun e => hn (i, t) (List.mem_cons_self ..) e.symm)]
      exact putTL_ne h1 id (fun p hp => hn p (List.mem_cons_of_mem _ hp))
    · cases h
theorem closedA_ok {env env' : Env} : ∀ {x : AV}, closedA x = true → (∀ v, VR env x v → VR env' x v) ∧ (∀ l, VL env x l → VL env' x l) := by
  intro x
  induction x with
  | cons a b iha ihb =>
    intro h
    simp only [closedA, Bool.and_eq_true] at h
    exact ⟨fun v hv => hv.elim, fun l ⟨x, xs, e, hx, hxs⟩ => ⟨x, xs, e, (iha h.1).1 _ hx, (ihb h.2).2 _ hxs⟩⟩
  | str l => intro _; exact ⟨fun v hv => hv, fun l hl => hl⟩
  | int k n => intro _; exact ⟨fun v hv => hv, fun l hl => hl⟩
  | bool b => intro _; exact ⟨fun v hv => hv, fun l hl => hl⟩
  | nil => intro _; exact ⟨fun v hv => hv, fun l hl => hl⟩
  | _ => intro h; cases h

/-- the part of memory that the globals are -/
theorem start_part {g n e : Nat} {c0 : T AV} {H0 H : Hp} (st : Start G g n e c0 H0) (ho : heapOK g n e c0 H = true) {env : Env} {w : World} {nx N : Nat} (hN : G ≤ N) (hg : GL G env) (hs : SR env H nx w) :
    SR (fun id => if id < G then env id else none) H0 N w := by
  have key : ∃ c, H.get g = some (.cells c n 0 e) ∧ ∀ i, i < n → c.get i = c0.get i := by
    unfold heapOK at ho
    split at ho
    · rename_i c m sz t h
      simp only [Bool.and_eq_true] at ho
      obtain ⟨⟨⟨h1, h2⟩, h3⟩, h4⟩ := ho
      have e1 := Nat.eq_of_beq_eq_true h1
      have e2 := Nat.eq_of_beq_eq_true h2
      have e3 := Nat.eq_of_beq_eq_true h3
      subst e1; subst e2; subst e3
      exact ⟨c, h, fun i hi => sameS_eq (List.all_eq_true.1 h4 i (List.mem_range.2 hi))⟩
    · cases ho
  obtain ⟨c, hc, hcc⟩ := key
  have spl : ∀ id L, (if id < G then env id else none) = some L → id < G ∧ env id = some L := by
    intro id L h
    split at h
    · rename_i q; exact ⟨q, h⟩
    · cases h
  have k : ∀ id L, id < G → env id = some L → L.b = id := by
    intro id L hl h
    obtain ⟨L2, k1, k2, _⟩ := hg id hl
    rw [h] at k1; cases k1; exact k2
  refine ⟨fun id L o hL ho' => ?_, fun id L hL => ?_, fun id id' L L' o o' hL hL' _ _ _ _ e1 => ?_, fun id hid => ?_⟩
  · obtain ⟨hlt, hL⟩ := spl id L hL
    rcases st.dead id o ho' with rfl | ⟨_, rfl⟩
    · rw [st.at_] at ho'; cases ho'
      obtain ⟨ob, h1, arr, fr, h2, h3, h4, h5, h6, h7⟩ := hs.obj id L _ hL hc
      refine ⟨ob, h1, arr, fr, h2, h3, h4, h5, fun i v hv => ?_, h7⟩
      have hi := st.cells i v hv
      obtain ⟨g1, x, g2, g3⟩ := h6 i v (by rw [hcc i hi]; exact hv)
      refine ⟨g1, x, g2, ?_⟩
      have he : ∃ s, v = .str s := by
        have h4 := ho
        unfold heapOK at h4
        rw [hc] at h4
        simp only [Bool.and_eq_true] at h4
        have := List.all_eq_true.1 h4.2 i (List.mem_range.2 hi)
        rw [hv] at this
        unfold sameS at this
        split at this
        · rename_i x y e1 e2; cases e2; exact ⟨_, rfl⟩
        · cases this
      obtain ⟨s, rfl⟩ := he
      exact g3
    · have hb := (hs.bnd id L hL).1
      exact ⟨w.heap[L.b], by simp [hb], trivial⟩
  · obtain ⟨hlt, hL⟩ := spl id L hL
    exact ⟨(hs.bnd id L hL).1, by omega⟩
  · obtain ⟨h1, hL⟩ := spl id L hL
    obtain ⟨h2, hL'⟩ := spl id' L' hL'
    rw [k id L h1 hL, k id' L' h2 hL'] at e1
    exact e1
  · cases hh : H0.get id with
    | none => rfl
    | some o =>
      rcases st.dead id o hh with rfl | ⟨hlt, _⟩
      · have := st.lt; omega
      · omega

theorem tellB_ok {g n e b nk N : Nat} {c0 : T AV} {H0 : Hp} {args0 v : AV} {tl : List (Nat × TO)} (st : Start G g n e c0 H0) (hGN : G ≤ N) {ih tp : Nat → AV → Hp → Nat → VRes} (hih : CallOK P G ih) (htp : CallOK P G tp)
    (ht : tellX N tl nk v (tp b args0 H0 N) = true) : CallOK P G (tellB N g n e c0 b args0 v tl nk ih) := by
  intro f args H nx v1 H' nx' h env w xs hg hv hs
  unfold tellB at h
  cases hb : (Nat.beq f b && (sameAV 400 args args0 && (closedA args0 && (Nat.ble nx N && heapOK g n e c0 H)))) with
  | false => rw [hb] at h; exact hih f args H nx v1 H' nx' h env w xs hg hv hs
  | true =>
    rw [hb] at h
    simp only [cond_true] at h
    split at h
    · rename_i H3 h3
      cases h
      simp only [Bool.and_eq_true] at hb
      obtain ⟨h1, h2, hc, hn, h4⟩ := hb
      have e1 := Nat.eq_of_beq_eq_true h1
      have e2 := sameAV_eq h2
      have e3 := Nat.le_of_ble_eq_true hn
      subst e1; subst e2
      have hs0 := start_part st h4 hGN hg hs
      have hg0 : GL G (fun id => if id < G then env id else none) := fun i hi => by
        obtain ⟨L, k1, k2⟩ := hg i hi
        exact ⟨L, by simp [hi, k1], k2⟩
      have hv0 : VL (fun id => if id < G then env id else none) args xs.toList := (closedA_ok hc).2 _ hv
      cases hr : tp f args H0 N with
      | no => rw [hr] at ht; cases ht
      | ok v2 H2 nx2 =>
        rw [hr] at ht
        simp only [tellX, Bool.and_eq_true] at ht
        obtain ⟨t1, t2, t3⟩ := ht
        have f1 := sameAV_eq t1
        have f2 := Nat.le_of_ble_eq_true t2
        subst f1
        have key : ∀ p, p ∈ tl → N ≤ p.1 ∧ ∃ o2, H2.get p.1 = some o2 ∧ o2.live = true ∧ ∀ env L ob, OR env L o2 ob → OR env L (toAO p.2) ob := by
          rintro ⟨id, t⟩ m
          have q := List.all_eq_true.1 t3 (id, t) m
          simp only [Bool.and_eq_true] at q
          cases e2 : H2.get id with
          | none => rw [e2] at q; cases t <;> cases q.2
          | some o2 =>
            rw [e2] at q
            exact ⟨Nat.le_of_ble_eq_true q.1, o2, rfl, subX_live q.2, fun env L ob h => subX_OR q.2 h⟩
        have low : ∀ id, id < N → H'.get id = H.get id := fun id hid => putTL_ne h3 id (fun p hp e => by have := (key p hp).1; omega)
        have high : ∀ id o, N ≤ id → H'.get id = some o → ∃ o2, H2.get id = some o2 ∧ o2.live = true ∧ ∀ env L ob, OR env L o2 ob → OR env L o ob := by
          intro id o hid ho
          rcases putTL_get h3 id o ho with ⟨t, m, rfl⟩ | q
          · exact (key (id, t) m).2
          · rw [hs.top id (by omega)] at q; cases q
        have fin : ∀ (c : Value) (w' : World), Gives G (fun id => if id < G then env id else none) H0 N w v H2 nx2 c w' → Gives G env H nx w v H' nk c w' := by
          rintro c w' ⟨env', q1, q2, q3⟩
          have hnxN : N ≤ nx2 := q3.nxle
          have none_of : ∀ id, nx ≤ id → env id = none := fun id hid => by
            cases e : env id with
            | none => rfl
            | some L => have := (hs.bnd id L e).2; omega
          have fresh : ∀ id L, env' id = some L → (id < G ∧ env id = some L) ∨ (N ≤ id ∧ w.heap.size ≤ L.b) := by
            intro id L hL
            rcases q3.news id L hL with a | ⟨a, b⟩
            · split at a
              · rename_i q; exact .inl ⟨q, a⟩
              · cases a
            · rcases b with b | ⟨id0, L0, g0, b, _⟩
              · exact .inr ⟨a, b⟩
              · rw [if_neg (by omega)] at b; cases b
          have old : ∀ b, b < w.heap.size → w'.heap[b]? = w.heap[b]? := fun b hb => q3.frame b hb (fun id L hid hL => by rw [if_neg (by omega)] at hL; cases hL)
          have hle : Le env' (fun id => if id < N then env id else env' id) := by
            intro id L hL
            rcases fresh id L hL with ⟨a, b⟩ | ⟨a, _⟩
            · simp only [show id < N by omega, if_true]; exact b
            · simp only [show ¬ id < N by omega, if_false]; exact hL
          have hle2 : Le env (fun id => if id < N then env id else env' id) := by
            intro id L hL
            have := (hs.bnd id L hL).2
            simp only [show id < N by omega, if_true]; exact hL
          refine ⟨fun id => if id < N then env id else env' id, q1.ext hle, ⟨fun id L o hL ho => ?_, fun id L hL => ?_, fun id id' L L' o o' hL hL' ho ho' l1 l2 he => ?_, fun id hid => ?_⟩, ⟨hle2, by omega, fun id L hL => ?_, fun id hid he => low id (by omega), q3.size, fun b hb _ => old b hb, q3.os, q3.tape, q3.output⟩⟩
          · by_cases hid : id < N
            · simp only [hid, if_true] at hL
              rw [low id hid] at ho
              obtain ⟨ob, r1, r2⟩ := hs.obj id L o hL ho
              exact ⟨ob, by rw [old _ (hs.bnd id L hL).1]; exact r1, r2.ext hle2⟩
            · simp only [hid, if_false] at hL
              obtain ⟨o2, k1, _, k3⟩ := high id o (by omega) ho
              obtain ⟨ob, r1, r2⟩ := q2.obj id L o2 hL k1
              exact ⟨ob, r1, (k3 _ _ _ r2).ext hle⟩
          · by_cases hid : id < N
            · simp only [hid, if_true] at hL
              have := hs.bnd id L hL
              exact ⟨Nat.lt_of_lt_of_le this.1 q3.size, by omega⟩
            · simp only [hid, if_false] at hL
              have := q2.bnd id L hL
              exact ⟨this.1, by omega⟩
          · by_cases hid : id < N <;> by_cases hid' : id' < N
            · simp only [hid, hid', if_true] at hL hL'
              rw [low id hid] at ho
              rw [low id' hid'] at ho'
              exact hs.inj id id' L L' o o' hL hL' ho ho' l1 l2 he
            · simp only [hid, if_true] at hL
              simp only [hid', if_false] at hL'
              have b1 := (hs.bnd id L hL).1
              rcases fresh id' L' hL' with ⟨a, _⟩ | ⟨_, a⟩
              · omega
              · omega
            · simp only [hid, if_false] at hL
              simp only [hid', if_true] at hL'
              have b1 := (hs.bnd id' L' hL').1
              rcases fresh id L hL with ⟨a, _⟩ | ⟨_, a⟩
              · omega
              · omega
            · simp only [hid, hid', if_false] at hL hL'
              obtain ⟨o2, k1, k2, _⟩ := high id o (by omega) ho
              obtain ⟨o3, k3, k4, _⟩ := high id' o' (by omega) ho'
              exact q2.inj id id' L L' o2 o3 hL hL' k1 k3 k2 k4 he
          · cases hh : H'.get id with
            | none => rfl
            | some o =>
              obtain ⟨o2, k1, _⟩ := high id o (by omega) hh
              rw [q2.top id (by omega)] at k1; cases k1
          · by_cases hid : id < N
            · simp only [hid, if_true] at hL; exact .inl hL
            · simp only [hid, if_false] at hL
              rcases fresh id L hL with ⟨a, _⟩ | ⟨_, a⟩
              · omega
              · exact .inr ⟨by omega, .inl a⟩
        rcases htp f args H0 N _ H2 nx2 hr _ w xs hg0 hv0 hs0 with ⟨r1, r2⟩ | ⟨c, w', r1, r2⟩
        · refine .inl ⟨r1, r2.mono ?_⟩
          rintro e w' ⟨c, rfl, q⟩
          exact ⟨c, rfl, fin c w' q⟩
        · exact .inr ⟨c, w', r1, fin c w' r2⟩
    · cases h

theorem intoA_ok (hrf : RfOK P rf) (hext : ExtOK P G) (hname : ∀ (f : Nat) (fn : Func), P.funcs[f]? = some fn → fn.body.isSome = true → (fn.name == "runtime.NumGoroutine") = false)
    (hdraw : ∀ ih, CallOK P G ih → DrawOK P G ih) (m r : Nat) {cf ih : Nat → AV → Hp → Nat → VRes} (hcf : CallOK P G cf) (hih : CallOK P G ih) : CallOK P G (intoA P G rf m r cf ih) := by
  have h1 := call_ok (n := m) hrf hext hname (evT_ok hcf (hdraw _ hcf) m)
  intro f args H nx v1 H' nx' h
  unfold intoA at h
  cases hb : Nat.beq f r with
  | false => rw [hb] at h; exact hih f args H nx v1 H' nx' h
  | true => rw [hb] at h; exact h1 f args H nx v1 H' nx' h

theorem topG_ok {g n e a b nk r q N nk1 : Nat} {c0 : T AV} {H0 : Hp} {args0 v args1 v1 : AV} {tl tl1 : List (Nat × TO)} (st : Start G g n e c0 H0) (hGN : G ≤ N) (hrf : RfOK P rf) (hext : ExtOK P G) (hname : ∀ (f : Nat) (fn : Func), P.funcs[f]? = some fn → fn.body.isSome = true → (fn.name == "runtime.NumGoroutine") = false)
    (hdraw : ∀ ih, CallOK P G ih → DrawOK P G ih) (m : Nat) (ht : okT (topA P G rf m a .nil H0 G) = true) (hH : isSomeH (hpT tl) = true) (htl : tellOK tl nk v (fcall P G rf m 1000 b args0 H0 G fin) = true)
    (htx : tellX N tl1 nk1 v1 (fcall P G rf m 1000 q args1 H0 N fin) = true) :
    CallOK P G (fun f args H nx => topG P G rf m g n e c0 a b args0 v (heapT tl) nk r q N args1 v1 tl1 nk1 f args H nx) := by
  have h1 := fast_ok (P := P) (G := G) (rf := rf) (fun n => evCall_ok hrf hext hname hdraw n) m 1000
  have hH' : hpT tl = some (heapT tl) := by
    unfold heapT
    cases e : hpT tl with
    | none => rw [e] at hH; cases hH
    | some H => rfl
  have h2 := orA_ok st (intoA_ok hrf hext hname hdraw m r (tellB_ok (b := q) st hGN h1 h1 htx) (tellA_ok (a := b) st h1 h1 hH' htl)) (top_ok hrf hext hname hdraw m) ht
  exact call_ok (n := m) hrf hext hname (evT_ok h2 (hdraw _ h2) m)
end Go.Ev

namespace Go.Ev
variable {P : Program} {G rf : Nat}
theorem ren_ok {env env' : Env} {f : Nat → Nat} (hf : ∀ i L, env (f i) = some L → env' i = some L) : ∀ x, (∀ v, VR env (ren f x) v → VR env' x v) ∧ (∀ l, VL env (ren f x) l → VL env' x l) := by
  intro x
  induction x with
  | ptr id off => exact ⟨fun v ⟨L, a, b⟩ => ⟨L, hf _ _ a, b⟩, fun l hl => by simp [ren, VL] at hl⟩
  | sl id off len cap => exact ⟨fun v ⟨L, c, a, b, d⟩ => ⟨L, c, hf _ _ a, b, d⟩, fun l hl => by simp [ren, VL] at hl⟩
  | map id => exact ⟨fun v ⟨L, a, b⟩ => ⟨L, hf _ _ a, b⟩, fun l hl => by simp [ren, VL] at hl⟩
  | fn f a c iha ihc => exact ⟨fun v ⟨x, y, e, ha, hc⟩ => ⟨x, y, e, iha.2 _ ha, ihc.2 _ hc⟩, fun l hl => by simp [ren, VL] at hl⟩
  | iface t x ih => exact ⟨fun v ⟨y, e, hy⟩ => ⟨y, e, ih.1 _ hy⟩, fun l hl => by simp [ren, VL] at hl⟩
  | agg l ih => exact ⟨fun v ⟨y, e, hy⟩ => ⟨y, e, ih.2 _ hy⟩, fun l hl => by simp [ren, VL] at hl⟩
  | tup l ih => exact ⟨fun v ⟨y, e, hy⟩ => ⟨y, e, ih.2 _ hy⟩, fun l hl => by simp [ren, VL] at hl⟩
  | cons a b iha ihb => exact ⟨fun v hv => hv.elim, fun l ⟨x, xs, e, hx, hxs⟩ => ⟨x, xs, e, iha.1 _ hx, ihb.2 _ hxs⟩⟩
  | _ => exact ⟨fun v hv => hv, fun l hl => hl⟩
theorem oneA_cell' {env : Env} {v : AV} (h : oneA v = true) {x : Value} (hx : VR env v x) : x.oneCell = true := by
  have := oneA_cell h hx
  cases x <;> first | rfl | exact this
theorem wideB_ok {env : Env} {m r : Nat} {u : AV} {x : Value} (hw : wideB m r u = true) (hv : VR env u x) : VR env (.rs .u8 m r) x := by
  unfold wideB at hw
  split at hw
  · rename_i n
    simp only [Bool.and_eq_true] at hw
    obtain ⟨h1, h2, h3⟩ := hw
    have h1 : n < 256 := Nat.le_of_ble_eq_true h1
    have h2 : 512 ≤ m := Nat.le_of_ble_eq_true h2
    have h3 := Nat.eq_of_beq_eq_true h3
    simp only [VR] at hv
    subst hv
    exact ⟨n, rfl, by rw [if_neg (by omega)]; exact h3, h1⟩
  · rename_i m' r'
    simp only [Bool.and_eq_true] at hw
    obtain ⟨h1, h2, h3, h4⟩ := hw
    have h1 : 512 ≤ m := Nat.le_of_ble_eq_true h1
    have h2 : 512 ≤ m' := Nat.le_of_ble_eq_true h2
    have h3 : (m' - 512) &&& (m - 512) = m - 512 := Nat.eq_of_beq_eq_true h3
    have h4 : r' &&& (m - 512) = r := Nat.eq_of_beq_eq_true h4
    obtain ⟨n, rfl, q1, q2⟩ := hv
    rw [if_neg (by omega)] at q1
    refine ⟨n, rfl, ?_, q2⟩
    rw [if_neg (by omega), ← h4, ← q1, Nat.and_assoc, h3]
  · cases hw
theorem wideV_ok {env : Env} : ∀ {h u : AV}, wideV h u = true → (∀ x, VR env u x → VR env h x) ∧ (∀ l, VL env u l → VL env h l) := by
  intro h
  induction h with
  | unk =>
    intro u hw
    simp only [wideV] at hw
    refine ⟨fun x hx => oneA_cell' hw hx, fun l hl => ?_⟩
    cases u <;> first | (cases hw; done) | exact hl.elim
  | cons a b iha ihb =>
    intro u hw
    simp only [wideV] at hw
    split at hw
    · rename_i c d
      simp only [Bool.and_eq_true] at hw
      exact ⟨fun x hx => hx.elim, fun l ⟨x, xs, e, hx, hxs⟩ => ⟨x, xs, e, (iha hw.1).1 _ hx, (ihb hw.2).2 _ hxs⟩⟩
    · cases hw
  | agg a ih =>
    intro u hw
    simp only [wideV] at hw
    split at hw
    · exact ⟨fun x ⟨y, e, hy⟩ => ⟨y, e, (ih hw).2 _ hy⟩, fun l hl => hl.elim⟩
    · cases hw
  | tup a ih =>
    intro u hw
    simp only [wideV] at hw
    split at hw
    · exact ⟨fun x ⟨y, e, hy⟩ => ⟨y, e, (ih hw).2 _ hy⟩, fun l hl => hl.elim⟩
    · cases hw
  | rs k m r =>
    intro u hw
    simp only [wideV] at hw
    split at hw
    · refine ⟨fun x hx => wideB_ok hw hx, fun l hl => ?_⟩
      unfold wideB at hw
      split at hw
      · exact hl.elim
      · exact hl.elim
      · cases hw
    · cases hw
  | _ =>
    intro u hw
    have hw : sameAV 100 _ u = true := hw
    have e := sameAV_eq hw
    subst e
    exact ⟨fun x hx => hx, fun l hl => hl⟩
theorem subR_get {f : Nat → Nat} : ∀ {l : AV} {c : T AV} {i : Nat}, subR f l c i = true → ∀ j v, l.nth j = some v → ∃ u, c.get (i + j) = some u ∧ wideV (ren f v) u = true := by
  intro l
  induction l with
  | cons h t _ ih =>
    intro c i hs j v hv
    simp only [subR] at hs
    split at hs
    · rename_i u hu
      simp only [Bool.and_eq_true] at hs
      cases j with
      | zero =>
        simp only [AV.nth, Option.some.injEq] at hv
        subst hv
        exact ⟨u, by rw [Nat.add_zero]; exact hu, hs.1⟩
      | succ j =>
        simp only [AV.nth] at hv
        have := ih hs.2 j v hv
        rw [show i + (j + 1) = i.succ + j by omega]
        exact this
    · cases hs
  | nil => intro c i hs j v hv; cases j <;> cases hv
  | _ => intro c i hs j v hv; cases hs
theorem sameEsR_MR {env env' : Env} {f : Nat → Nat} (hf : ∀ i L, env (f i) = some L → env' i = some L) : ∀ {l m : List Ent} {a : List MapEntry}, sameEsR f l m = true → MR env m a → MR env' l a
  | [], [], a, _, h => h
  | x :: l, y :: m, a, hs, ⟨z, zs, e, h1, h2, h3, h4⟩ => by
    simp only [sameEsR, Bool.and_eq_true] at hs
    obtain ⟨k1, k2, k3, k4⟩ := hs
    exact ⟨z, zs, e, (ren_ok hf _).1 _ ((wideV_ok k1).1 _ h1), (ren_ok hf _).1 _ ((wideV_ok k2).1 _ h2), (Nat.eq_of_beq_eq_true k3).trans h3, sameEsR_MR hf k4 h4⟩
  | [], _ :: _, _, hs, _ => by cases hs
  | _ :: _, [], _, hs, _ => by cases hs
theorem subRT_OR {env env' : Env} {f : Nat → Nat} (hf : ∀ i L, env (f i) = some L → env' i = some L) {t : TO} {o : AO} (h : subRT f t (some o) = true) {L : Loc} {ob : Obj} (ho : OR env L o ob) : OR env' L (toAO t) ob := by
  cases t with
  | cells n sz e l =>
    cases o with
    | cells c n' sz' e' =>
      simp only [subRT, Bool.and_eq_true] at h
      obtain ⟨h1, h2, h3, h4, h5, h6⟩ := h
      have e1 := Nat.eq_of_beq_eq_true h1
      have e2 := Nat.eq_of_beq_eq_true h2
      have e3 := Nat.eq_of_beq_eq_true h3
      subst e1; subst e2; subst e3
      obtain ⟨arr, fr, q1, q2, q3, q4, q5, q6⟩ := ho
      refine ⟨arr, fr, q1, q2, q3, q4, fun i v hv => ?_, q6⟩
      obtain ⟨k1, k2⟩ := rowD_get (rowQ_row h5) i v hv
      obtain ⟨u, k3, k4⟩ := subR_get h6 i v k2
      rw [Nat.zero_add] at k3
      obtain ⟨g1, x, g2, g3⟩ := q5 i u k3
      exact ⟨g1, x, g2, (ren_ok hf _).1 _ ((wideV_ok k4).1 _ g3)⟩
    | _ => cases h
  | map es ck =>
    cases o with
    | map es' ck' =>
      simp only [subRT, Bool.and_eq_true] at h
      have e1 := Nat.eq_of_beq_eq_true h.1
      subst e1
      obtain ⟨q1, arr, q2, q3⟩ := ho
      exact ⟨q1, arr, q2, sameEsR_MR hf h.2 q3⟩
    | _ => cases h
theorem subRT_live {f : Nat → Nat} {t : TO} {o : AO} (h : subRT f t (some o) = true) : o.live = true := by
  cases t <;> cases o <;> first | rfl | cases h
theorem freshN_ne : ∀ {l : List Nat}, freshN l = true → l.Nodup
  | [], _ => List.nodup_nil
  | a :: l, h => by
    simp only [freshN, Bool.and_eq_true] at h
    obtain ⟨h1, h2⟩ := h
    refine List.nodup_cons.2 ⟨fun hm => ?_, freshN_ne h2⟩
    have : l.any (Nat.beq a) = true := List.any_eq_true.2 ⟨a, hm, Nat.beq_refl a⟩
    rw [this] at h1; cases h1
theorem nodup_map_inj {α : Type} {g : α → Nat} : ∀ {l : List α}, (l.map g).Nodup → ∀ x ∈ l, ∀ y ∈ l, g x = g y → x = y
  | [], _, x, hx, _, _, _ => by cases hx
  | a :: l, h, x, hx, y, hy, e => by
    rw [List.map_cons, List.nodup_cons] at h
    rcases List.mem_cons.1 hx with e1 | h1
    · rcases List.mem_cons.1 hy with e2 | h2
      · rw [e1, e2]
      · exact (h.1 (List.mem_map.2 ⟨y, h2, by rw [← e, e1]⟩)).elim
    · rcases List.mem_cons.1 hy with e2 | h2
      · exact (h.1 (List.mem_map.2 ⟨x, h1, by rw [e, e2]⟩)).elim
      · exact nodup_map_inj h.2 x h1 y h2 e

theorem lookN_ge {G : Nat} : ∀ {ρ : List (Nat × Nat)}, (ρ.all fun p => Nat.ble G p.2) = true → ∀ i, G ≤ i → G ≤ lookN ρ i
  | [], _, i, hi => hi
  | (a, b) :: l, h, i, hi => by
    simp only [List.all_cons, Bool.and_eq_true] at h
    simp only [lookN]
    cases Nat.beq a i with
    | true => exact Nat.le_of_ble_eq_true h.1
    | false => exact lookN_ge h.2 i hi

/-- memory is as it is told; what is told, but for the globals, lies from `base` on -/
structure At (G base : Nat) (H : Hp) (nk : Nat) (env : Env) (w : World) : Prop where
  g : GL G env
  s : SR env H nk w
  own : ∀ id L, G ≤ id → env id = some L → base ≤ L.b
  size : base ≤ w.heap.size

theorem At.only {base nk : Nat} {H : Hp} {env : Env} {w w' : World} (h : At G base H nk env w) (hsz : w.heap.size ≤ w'.heap.size) (hf : ∀ id L, env id = some L → w'.heap[L.b]? = w.heap[L.b]?) : At G base H nk env w' :=
  ⟨h.g, ⟨fun id L o h1 h2 => by rw [hf id L h1]; exact h.s.obj id L o h1 h2, fun id L h1 => ⟨Nat.lt_of_lt_of_le (h.s.bnd id L h1).1 hsz, (h.s.bnd id L h1).2⟩, h.s.inj, h.s.top⟩, h.own, Nat.le_trans h.size hsz⟩

theorem tellR_ok {ih : Nat → AV → Hp → Nat → VRes} (hih : CallOK P G ih) {f : Nat} {fn : Func} (hfn : P.funcs[f]? = some fn) (hb : fn.body.isNone = false) (hn : (fn.name == "runtime.NumGoroutine") = false)
    {args : AV} {H H2 : Hp} {nx nk : Nat} {tl : List (Nat × TO)} {v : AV} {ρ : List (Nat × Nat)} (hH : hpT tl = some H2) (hG : ((List.range G).all fun g => Nat.beq (lookN ρ g) g && Nat.blt g nk) = true) (hρ : (ρ.all fun p => Nat.ble G p.2) = true) (ht : tellR ρ tl nk v (ih f args H nx) = true)
    {base : Nat} {env : Env} {w : World} {xs : Array Value} (hat : At G base H nx env w) (hv : VL env args xs.toList) :
    Calls P f xs w fun e w' => ∃ c env', e = .returned c ∧ VR env' v c ∧ At G base H2 nk env' w' ∧ (∀ id off x, lookN ρ id = id → id < nk → VR env (.ptr id off) x → VR env' (.ptr id off) x) ∧
      w.heap.size ≤ w'.heap.size ∧ (∀ b, b < base → w'.heap[b]? = w.heap[b]?) ∧ w'.os = w.os ∧ w'.tape = w.tape ∧ w'.output = w.output := by
  cases hr : ih f args H nx with
  | no => rw [hr] at ht; cases ht
  | ok v1 H1 nx1 =>
    rw [hr] at ht
    simp only [tellR, Bool.and_eq_true] at ht
    obtain ⟨t1, t2, t3⟩ := ht
    have hnd := nodup_map_inj (freshN_ne t2)
    have hGg : ∀ g, g < G → lookN ρ g = g ∧ g < nk := fun g hg => by
      have := List.all_eq_true.1 hG g (List.mem_range.2 hg)
      simp only [Bool.and_eq_true] at this
      exact ⟨Nat.eq_of_beq_eq_true this.1, Nat.le_of_ble_eq_true this.2⟩
    have fin : ∀ (c : Value) (w' : World), Gives G env H nx w v1 H1 nx1 c w' → ∃ env', VR env' v c ∧ At G base H2 nk env' w' ∧ (∀ id off x, lookN ρ id = id → id < nk → VR env (.ptr id off) x → VR env' (.ptr id off) x) ∧
        w.heap.size ≤ w'.heap.size ∧ (∀ b, b < base → w'.heap[b]? = w.heap[b]?) ∧ w'.os = w.os ∧ w'.tape = w.tape ∧ w'.output = w.output := by
      rintro c w' ⟨env1, q1, q2, q3⟩
      have hdead : env1 nx1 = none := by
        cases e : env1 nx1 with
        | none => rfl
        | some L => have := (q2.bnd nx1 L e).2; omega
      have blt_t : ∀ {i}, i < nk → Nat.blt i nk = true := fun h => Nat.ble_eq_true_of_le h
      have blt_f : ∀ {i}, ¬ i < nk → Nat.blt i nk = false := fun {i} h => by
        cases e : Nat.blt i nk with
        | false => rfl
        | true => exact absurd (Nat.le_of_ble_eq_true e) h
      have hlt : ∀ i L, env1 (renN ρ nk nx1 i) = some L → i < nk ∧ env1 (lookN ρ i) = some L := by
        intro i L h
        unfold renN at h
        by_cases hi : i < nk
        · rw [blt_t hi] at h; exact ⟨hi, h⟩
        · rw [blt_f hi] at h; rw [show (bif false then lookN ρ i else nx1) = nx1 from rfl, hdead] at h; cases h
      have hto : ∀ i, i < nk → env1 (renN ρ nk nx1 i) = env1 (lookN ρ i) := by
        intro i hi
        unfold renN
        rw [blt_t hi]; rfl
      have key : ∀ id o, H2.get id = some o → id < nk ∧ ∃ t, (id, t) ∈ tl ∧ o = toAO t ∧ ∃ o1, H1.get (lookN ρ id) = some o1 ∧ o1.live = true ∧ subRT (renN ρ nk nx1) t (some o1) = true := by
        intro id o ho
        obtain ⟨t, m, rfl⟩ := hpT_get hH id o ho
        have q := List.all_eq_true.1 t3 (id, t) m
        simp only [Bool.and_eq_true] at q
        cases e2 : H1.get (lookN ρ id) with
        | none => rw [e2] at q; cases t <;> cases q.2
        | some o1 =>
          rw [e2] at q
          exact ⟨Nat.le_of_ble_eq_true q.1, t, m, rfl, o1, rfl, subRT_live q.2, q.2⟩
      refine ⟨fun i => env1 (renN ρ nk nx1 i), (ren_ok (fun i L h => h) _).1 _ ((wideV_ok t1).1 _ q1), ⟨fun g hg => ?_, ⟨fun id L o hL ho => ?_, fun id L hL => ?_, fun id id' L L' o o' hL hL' ho ho' l1 l2 he => ?_, fun id hid => ?_⟩, fun id L hid hL => ?_, Nat.le_trans hat.size q3.size⟩, fun id off x h1 h2 ⟨L, h3, h4⟩ => ⟨L, ?_, h4⟩, q3.size, fun b hb1 => ?_, q3.os, q3.tape, q3.output⟩
      · obtain ⟨L, k1, k2⟩ := hat.g g hg
        exact ⟨L, by show env1 (renN ρ nk nx1 g) = _; rw [hto g (hGg g hg).2, (hGg g hg).1]; exact q3.le _ _ k1, k2⟩
      · obtain ⟨k1, t, m, rfl, o1, k2, k3, k4⟩ := key id o ho
        obtain ⟨_, hL1⟩ := hlt id L hL
        obtain ⟨ob, r1, r2⟩ := q2.obj _ L o1 hL1 k2
        exact ⟨ob, r1, subRT_OR (fun i L h => h) k4 r2⟩
      · obtain ⟨k1, k2⟩ := hlt id L hL
        exact ⟨(q2.bnd _ L k2).1, k1⟩
      · obtain ⟨_, hL1⟩ := hlt id L hL
        obtain ⟨_, hL1'⟩ := hlt id' L' hL'
        obtain ⟨_, t, m, rfl, o1, k2, k3, _⟩ := key id o ho
        obtain ⟨_, t', m', rfl, o1', k2', k3', _⟩ := key id' o' ho'
        have e := q2.inj _ _ L L' o1 o1' hL1 hL1' k2 k2' k3 k3' he
        have := hnd (id, t) m (id', t') m' e
        exact congrArg Prod.fst this
      · cases hh : H2.get id with
        | none => rfl
        | some o => have := (key id o hh).1; omega
      · obtain ⟨k1, k2⟩ := hlt id L hL
        rcases q3.news _ L k2 with a | ⟨a, b⟩
        · exact hat.own _ L (by have := lookN_ge hρ id; omega) a
        · rcases b with b | ⟨id0, L0, g0, b, e⟩
          · exact Nat.le_trans hat.size b
          · rw [← e]; exact hat.own id0 L0 g0 b
      · show env1 (renN ρ nk nx1 id) = some L
        rw [hto id h2, h1]
        exact q3.le _ _ h3
      · exact q3.frame b (Nat.lt_of_lt_of_le hb1 hat.size) (fun id L hid hL e => by have := hat.own id L hid hL; omega)
    rcases hih f args H nx _ H1 nx1 hr env w xs hat.g hv hat.s with ⟨_, r2⟩ | ⟨c, w', r1, _⟩
    · refine r2.mono ?_
      rintro e w' ⟨c, rfl, q⟩
      obtain ⟨env', q1⟩ := fin c w' q
      exact ⟨c, env', rfl, q1⟩
    · exfalso
      simp only [callFunc, Sem.run_bind, run_program, Result.andThen_ok, hfn, hn, hb, Bool.false_eq_true, if_false, Sem.run_pure] at r1
      cases r1
end Go.Ev

/- What a call leaves that starts on told memory: what is told lies in blocks of X, and nothing else that was there turns. No condition. -/
namespace Go.Ev
variable {P : Program} {G rf : Nat}
/-- memory is as it is told; what is told, but for the globals, lies in blocks of X -/
structure AtX (G : Nat) (X : Nat → Prop) (H : Hp) (nk : Nat) (env : Env) (w : World) : Prop where
  g : GL G env
  s : SR env H nk w
  own : ∀ id L, G ≤ id → env id = some L → X L.b

theorem AtX.only {X : Nat → Prop} {nk : Nat} {H : Hp} {env : Env} {w w' : World} (h : AtX G X H nk env w) (hsz : w.heap.size ≤ w'.heap.size) (hf : ∀ b, b < w.heap.size → b < G ∨ X b → w'.heap[b]? = w.heap[b]?) (hlow : ∀ id L, id < G → env id = some L → L.b < G) : AtX G X H nk env w' := by
  have hf' : ∀ id L, env id = some L → w'.heap[L.b]? = w.heap[L.b]? := fun id L hL => hf L.b (h.s.bnd id L hL).1 (by
    rcases Nat.lt_or_ge id G with a | a
    · exact .inl (hlow id L a hL)
    · exact .inr (h.own id L a hL))
  exact ⟨h.g, ⟨fun id L o h1 h2 => by rw [hf' id L h1]; exact h.s.obj id L o h1 h2, fun id L h1 => ⟨Nat.lt_of_lt_of_le (h.s.bnd id L h1).1 hsz, (h.s.bnd id L h1).2⟩, h.s.inj, h.s.top⟩, h.own⟩
theorem AtX.low {X : Nat → Prop} {nk : Nat} {H : Hp} {env : Env} {w : World} (h : AtX G X H nk env w) : ∀ id L, id < G → env id = some L → L.b < G := fun id L hid hL => by
  obtain ⟨L', h1, h2, _⟩ := h.g id hid
  rw [hL] at h1
  injection h1 with h1
  subst h1
  omega
theorem AtX.kept {X : Nat → Prop} {nk : Nat} {H : Hp} {env : Env} {w w' : World} (h : AtX G X H nk env w) (hsz : w.heap.size ≤ w'.heap.size) (hf : ∀ b, b < w.heap.size → b < G ∨ X b → w'.heap[b]? = w.heap[b]?) : AtX G X H nk env w' := h.only hsz hf h.low
theorem AtX.mono {X Y : Nat → Prop} {nk : Nat} {H : Hp} {env : Env} {w : World} (h : AtX G X H nk env w) (hs : ∀ b, X b → Y b) : AtX G Y H nk env w := ⟨h.g, h.s, fun id L h1 h2 => hs _ (h.own id L h1 h2)⟩
theorem AtX.start {X : Nat → Prop} {H : Hp} {env : Env} {w : World} (hg : GL G env) (hs : SR env H G w) : AtX G X H G env w := ⟨hg, hs, fun id L h1 h2 => absurd (hs.bnd id L h2).2 (by omega)⟩

theorem tellX_ok {ih : Nat → AV → Hp → Nat → VRes} (hih : CallOK P G ih) {f : Nat} {fn : Func} (hfn : P.funcs[f]? = some fn) (hb : fn.body.isNone = false) (hn : (fn.name == "runtime.NumGoroutine") = false)
    {args : AV} {H H2 : Hp} {nx nk : Nat} {tl : List (Nat × TO)} {v : AV} {ρ : List (Nat × Nat)} (hH : hpT tl = some H2) (hG : ((List.range G).all fun g => Nat.beq (lookN ρ g) g && Nat.blt g nk) = true) (hρ : (ρ.all fun p => Nat.ble G p.2) = true) (ht : tellR ρ tl nk v (ih f args H nx) = true)
    {X : Nat → Prop} {env : Env} {w : World} {xs : Array Value} (hat : AtX G X H nx env w) (hv : VL env args xs.toList) :
    Calls P f xs w fun e w' => ∃ c env', e = .returned c ∧ VR env' v c ∧ AtX G (fun b => X b ∨ (w.heap.size ≤ b ∧ b < w'.heap.size)) H2 nk env' w' ∧ (∀ id off x, lookN ρ id = id → id < nk → VR env (.ptr id off) x → VR env' (.ptr id off) x) ∧
      w.heap.size ≤ w'.heap.size ∧ (∀ b, b < w.heap.size → ¬ X b → w'.heap[b]? = w.heap[b]?) ∧ w'.os = w.os ∧ w'.tape = w.tape ∧ w'.output = w.output := by
  cases hr : ih f args H nx with
  | no => rw [hr] at ht; cases ht
  | ok v1 H1 nx1 =>
    rw [hr] at ht
    simp only [tellR, Bool.and_eq_true] at ht
    obtain ⟨t1, t2, t3⟩ := ht
    have hnd := nodup_map_inj (freshN_ne t2)
    have hGg : ∀ g, g < G → lookN ρ g = g ∧ g < nk := fun g hg => by
      have := List.all_eq_true.1 hG g (List.mem_range.2 hg)
      simp only [Bool.and_eq_true] at this
      exact ⟨Nat.eq_of_beq_eq_true this.1, Nat.le_of_ble_eq_true this.2⟩
    have fin : ∀ (c : Value) (w' : World), Gives G env H nx w v1 H1 nx1 c w' → ∃ env', VR env' v c ∧ AtX G (fun b => X b ∨ (w.heap.size ≤ b ∧ b < w'.heap.size)) H2 nk env' w' ∧ (∀ id off x, lookN ρ id = id → id < nk → VR env (.ptr id off) x → VR env' (.ptr id off) x) ∧
        w.heap.size ≤ w'.heap.size ∧ (∀ b, b < w.heap.size → ¬ X b → w'.heap[b]? = w.heap[b]?) ∧ w'.os = w.os ∧ w'.tape = w.tape ∧ w'.output = w.output := by
      rintro c w' ⟨env1, q1, q2, q3⟩
      have hdead : env1 nx1 = none := by
        cases e : env1 nx1 with
        | none => rfl
        | some L => have := (q2.bnd nx1 L e).2; omega
      have blt_t : ∀ {i}, i < nk → Nat.blt i nk = true := fun h => Nat.ble_eq_true_of_le h
      have blt_f : ∀ {i}, ¬ i < nk → Nat.blt i nk = false := fun {i} h => by
        cases e : Nat.blt i nk with
        | false => rfl
        | true => exact absurd (Nat.le_of_ble_eq_true e) h
      have hlt : ∀ i L, env1 (renN ρ nk nx1 i) = some L → i < nk ∧ env1 (lookN ρ i) = some L := by
        intro i L h
        unfold renN at h
        by_cases hi : i < nk
        · rw [blt_t hi] at h; exact ⟨hi, h⟩
        · rw [blt_f hi] at h; rw [show (bif false then lookN ρ i else nx1) = nx1 from rfl, hdead] at h; cases h
      have hto : ∀ i, i < nk → env1 (renN ρ nk nx1 i) = env1 (lookN ρ i) := by
        intro i hi
        unfold renN
        rw [blt_t hi]; rfl
      have key : ∀ id o, H2.get id = some o → id < nk ∧ ∃ t, (id, t) ∈ tl ∧ o = toAO t ∧ ∃ o1, H1.get (lookN ρ id) = some o1 ∧ o1.live = true ∧ subRT (renN ρ nk nx1) t (some o1) = true := by
        intro id o ho
        obtain ⟨t, m, rfl⟩ := hpT_get hH id o ho
        have q := List.all_eq_true.1 t3 (id, t) m
        simp only [Bool.and_eq_true] at q
        cases e2 : H1.get (lookN ρ id) with
        | none => rw [e2] at q; cases t <;> cases q.2
        | some o1 =>
          rw [e2] at q
          exact ⟨Nat.le_of_ble_eq_true q.1, t, m, rfl, o1, rfl, subRT_live q.2, q.2⟩
      refine ⟨fun i => env1 (renN ρ nk nx1 i), (ren_ok (fun i L h => h) _).1 _ ((wideV_ok t1).1 _ q1), ⟨fun g hg => ?_, ⟨fun id L o hL ho => ?_, fun id L hL => ?_, fun id id' L L' o o' hL hL' ho ho' l1 l2 he => ?_, fun id hid => ?_⟩, fun id L hid hL => ?_⟩, fun id off x h1 h2 ⟨L, h3, h4⟩ => ⟨L, ?_, h4⟩, q3.size, fun b hb1 hb2 => ?_, q3.os, q3.tape, q3.output⟩
      · obtain ⟨L, k1, k2⟩ := hat.g g hg
        exact ⟨L, by show env1 (renN ρ nk nx1 g) = _; rw [hto g (hGg g hg).2, (hGg g hg).1]; exact q3.le _ _ k1, k2⟩
      · obtain ⟨k1, t, m, rfl, o1, k2, k3, k4⟩ := key id o ho
        obtain ⟨_, hL1⟩ := hlt id L hL
        obtain ⟨ob, r1, r2⟩ := q2.obj _ L o1 hL1 k2
        exact ⟨ob, r1, subRT_OR (fun i L h => h) k4 r2⟩
      · obtain ⟨k1, k2⟩ := hlt id L hL
        exact ⟨(q2.bnd _ L k2).1, k1⟩
      · obtain ⟨_, hL1⟩ := hlt id L hL
        obtain ⟨_, hL1'⟩ := hlt id' L' hL'
        obtain ⟨_, t, m, rfl, o1, k2, k3, _⟩ := key id o ho
        obtain ⟨_, t', m', rfl, o1', k2', k3', _⟩ := key id' o' ho'
        have e := q2.inj _ _ L L' o1 o1' hL1 hL1' k2 k2' k3 k3' he
        have := hnd (id, t) m (id', t') m' e
        exact congrArg Prod.fst this
      · cases hh : H2.get id with
        | none => rfl
        | some o => have := (key id o hh).1; omega
      · obtain ⟨k1, k2⟩ := hlt id L hL
        rcases q3.news _ L k2 with a | ⟨a, b⟩
        · exact .inl (hat.own _ L (by have := lookN_ge hρ id; omega) a)
        · rcases b with b | ⟨id0, L0, g0, b, e⟩
          · exact .inr ⟨b, (q2.bnd _ L k2).1⟩
          · exact .inl (by rw [← e]; exact hat.own id0 L0 g0 b)
      · show env1 (renN ρ nk nx1 id) = some L
        rw [hto id h2, h1]
        exact q3.le _ _ h3
      · exact q3.frame b hb1 (fun id L hid hL e => hb2 (by rw [← e]; exact hat.own id L hid hL))
    rcases hih f args H nx _ H1 nx1 hr env w xs hat.g hv hat.s with ⟨_, r2⟩ | ⟨c, w', r1, _⟩
    · refine r2.mono ?_
      rintro e w' ⟨c, rfl, q⟩
      obtain ⟨env', q1⟩ := fin c w' q
      exact ⟨c, env', rfl, q1⟩
    · exfalso
      simp only [callFunc, Sem.run_bind, run_program, Result.andThen_ok, hfn, hn, hb, Bool.false_eq_true, if_false, Sem.run_pure] at r1
      cases r1
end Go.Ev
