/- An evaluator of the model, and why what it tells is so (part 5). No condition. -/
import Derived.Test.YtekecchdjkkoeaaGreatDoorEv4
import Derived.Lib.LaidU8
import Derived.Handed
import Derived.Test.YtekecchdjkkoeaaGreatDoorEv1
set_option linter.unusedVariables false
set_option linter.unusedSimpArgs false
noncomputable section
namespace Go.Ev
variable {P : Program} {G N : Nat} {ops : Array Oper} {env env' : Env} {tm tm' : T AV} {H H' : Hp} {nx0 nx nx' : Nat}
variable {ih : Nat → AV → Hp → Nat → VRes} {tm1 : T AV} {H1 : Hp} {nx1 : Nat} {ds1 : DS} {env0 : Env} {H0 : Hp} {w0 : World}

theorem anyEdges_mem {o : Oper} {j : Nat} : j ∈ anyEdges o ↔ ∃ e ∈ o.after, Region.binds .any e = true ∧ e.on = j := by
  simp only [anyEdges, List.mem_filterMap, cond_eq_ite]
  constructor
  · rintro ⟨e, he, h⟩
    split at h
    · rename_i hb; cases h; exact ⟨e, by simpa using he, hb, rfl⟩
    · cases h
  · rintro ⟨e, he, hb, rfl⟩
    exact ⟨e, by simpa using he, by simp [hb]⟩

theorem ready_iff {j : Nat} {listed : Array Bool} : j ∈ Region.ready .any ops listed ↔ listed.getD j true = false ∧ ∃ o, ops[j]? = some o ∧ ∀ e ∈ anyEdges o, listed.getD e false = true := by
  rw [mem_ready]
  constructor
  · rintro ⟨h, o, ho, k⟩
    refine ⟨h, o, ho, fun e he => ?_⟩
    obtain ⟨e', h1, h2, rfl⟩ := anyEdges_mem.1 he
    exact k e' h1 h2
  · rintro ⟨h, o, ho, k⟩
    exact ⟨h, o, ho, fun e he hb => k e.on (anyEdges_mem.2 ⟨e, he, hb, rfl⟩)⟩

theorem draws_apart : ∀ {rest : List Pl} {pl : List Pd} {l : List CE}, draws pl rest = some l → (∀ p ∈ pl, ∀ x ∈ rest, p.i ≠ x.i) ∧ rest.Pairwise (fun x y => x.i ≠ y.i)
  | [], _, _, _ => ⟨(fun p _ x hx => by cases hx), List.Pairwise.nil⟩
  | y :: rest, pl, l, hd => by
    obtain ⟨l', k1, k2, _⟩ := draws_cons hd
    obtain ⟨h1, h2⟩ := draws_apart k2
    refine ⟨fun p hp x hx => ?_, List.pairwise_cons.2 ⟨fun x hx => h1 _ (List.mem_cons_self ..) x hx, h2⟩⟩
    rcases List.mem_cons.1 hx with rfl | hx
    · exact (okPl_spec k1).new p hp
    · exact h1 p (List.mem_cons_of_mem _ hp) x hx

theorem passGo_mem {S : Pl → Prop} : ∀ {l : List Pl} {done : Nat} {k : Nat → List Pl → List Pl}, (∀ x ∈ l, S x) → (∀ d r, (∀ x ∈ r, S x) → ∀ y ∈ k d r, S y) → ∀ y ∈ passGo l done k, S y
  | [], done, k, _, hk => hk done [] (fun x hx => by cases hx)
  | x :: l, done, k, hl, hk => by
    show ∀ y ∈ (Bool.rec (motive := fun _ => List Pl) (passGo l done (fun d r => k d (x :: r))) (x :: passGo l (Nat.lor done (Nat.pow 2 x.i)) k) (bz x.hv false (rdy x done)) : List Pl), S y
    have hx := hl x (List.mem_cons_self ..)
    have ht : ∀ x ∈ l, S x := fun z hz => hl z (List.mem_cons_of_mem _ hz)
    cases bz x.hv false (rdy x done) with
    | false =>
      refine passGo_mem ht (fun d r hr => hk d _ (fun z hz => ?_))
      rcases List.mem_cons.1 hz with rfl | hz
      · exact hx
      · exact hr z hz
    | true =>
      intro y hy
      rcases List.mem_cons.1 hy with rfl | hy
      · exact hx
      · exact passGo_mem ht hk y hy
theorem hvGo_mem {S : Pl → Prop} : ∀ {l : List Pl} {done : Nat} {k : Pl → List Pl → List Pl}, (∀ x ∈ l, S x) → (∀ z r, S z → (∀ x ∈ r, S x) → ∀ y ∈ k z r, S y) → ∀ y ∈ hvGo l done k, S y
  | [], done, k, _, hk => fun y hy => by cases hy
  | x :: l, done, k, hl, hk => by
    show ∀ y ∈ (Bool.rec (motive := fun _ => List Pl) (hvGo l done (fun y r => k y (x :: r))) (k x l) (rdy x done) : List Pl), S y
    have hx := hl x (List.mem_cons_self ..)
    have ht : ∀ x ∈ l, S x := fun z hz => hl z (List.mem_cons_of_mem _ hz)
    cases rdy x done with
    | false =>
      refine hvGo_mem ht (fun z r hz hr => hk z _ hz (fun u hu => ?_))
      rcases List.mem_cons.1 hu with rfl | hu
      · exact hx
      · exact hr u hu
    | true => exact hk x l hx ht
theorem ordN_mem {S : Pl → Prop} : ∀ {n done : Nat} {l : List Pl}, (∀ x ∈ l, S x) → ∀ y ∈ ordN n done l, S y
  | 0, _, _, _ => fun y hy => by cases hy
  | n + 1, done, l, hl => by
    show ∀ y ∈ passGo l done (fun d r => hvGo r d (fun y r => y :: ordN n (Nat.lor d (Nat.pow 2 y.i)) r)), S y
    refine passGo_mem hl (fun d r hr => hvGo_mem hr (fun z r hz hr y hy => ?_))
    rcases List.mem_cons.1 hy with rfl | hy
    · exact hz
    · exact ordN_mem hr y hy
theorem zipPl_good : ∀ {l : List Oper} {ces : List CE} {i seen : Nat}, cOpers P G N ops l = some ces → (∀ k, l[k]? = ops[i + k]? ∨ l[k]? = none) → ∀ x ∈ zipPl l ces i seen, RGood P G N ops x
  | [], _, _, _, _, _ => fun x hx => by cases hx
  | o :: l, ces, i, seen, h, hl => by
    simp only [cOpers] at h
    split at h
    · rename_i c r h1 h2
      cases h
      intro x hx
      have hx : x ∈ zipC (zipPl l) o c r i (Nat.lor seen c.sb) := hx
      unfold zipC at hx
      have ho : ops[i]? = some o := by
        rcases hl 0 with q | q
        · simpa using q.symm
        · simp at q
      rcases List.mem_cons.1 hx with rfl | hx
      · exact ⟨⟨o, ho, (fits h1).1, rfl⟩, (fits h1).2⟩
      · refine zipPl_good h2 (fun k => ?_) x hx
        have := hl (k + 1)
        rw [List.getElem?_cons_succ] at this
        rw [show i.succ + k = i + (k + 1) by omega]
        exact this
    · cases h

theorem any_ok (hih : CallOK P G ih) {Q : Exit → Act → World → Prop} (hq : ∀ env' a' w', St G N env' tm1 H1 nx1 ds1 a' w' → Tr G env0 H0 nx0 w0 env' H1 nx1 w' → Q .normal a' w') :
    ∀ (fuel : Nat) {listed : Array Bool} {env : Env} {pl : List Pd} {pend : List Pq} {rest : List Pl} {l : List CE} {tm : T AV} {H : Hp} {nx : Nat} {ds : DS} {tmS : T AV} {a : Act} {w : World},
      Inv P G N ops ih tm1 H1 nx1 ds1 env0 H0 nx0 w0 listed fuel env pl pend rest l tm H nx ds tmS a w → wpAny P .any ops Q fuel listed a w := by
  intro fuel
  induction fuel with
  | zero =>
    intro listed env pl pend rest l tm H nx ds tmS a w h
    have hlen := h.len
    have h1 : pend = [] := List.eq_nil_of_length_eq_zero (by omega)
    have h2 : rest = [] := List.eq_nil_of_length_eq_zero (by omega)
    subst h1; subst h2
    refine ⟨?_, ?_⟩
    · rw [List.eq_nil_iff_forall_not_mem]
      intro j hj
      obtain ⟨u, o, ho, _⟩ := ready_iff.1 hj
      rcases h.cov j o ho u with ⟨q, hq, _⟩ | ⟨x, hx, _⟩
      · cases hq
      · cases hx
    · have hd := h.drw
      simp only [draws] at hd
      cases hd
      have hr := h.run
      simp only [opsA] at hr
      cases hr
      have hag : ∀ d, tmS.get d = tm1.get d := fun d => h.agree d (fun q hq => by cases hq)
      exact hq env a w ⟨h.st.g, fun i v hv => h.st.t i v (by rw [hag]; exact hv), h.st.n, fun d hd => by rw [← hag]; exact h.st.m d hd, h.st.s, h.st.d⟩ h.tr
  | succ fuel ihf =>
    intro listed env pl pend rest l tm H nx ds tmS a w h
    obtain ⟨pl, pend, rest, l, tm, H, nx, h, hn⟩ := h.norm
    have hS : ∀ j, listed.getD j false = true ∨ ¬ listed.getD j false = true := fun j => by cases listed.getD j false <;> simp

    refine ⟨fun hr => ?_, fun i hi => ?_⟩
    · have hnone : ∀ j o, ops[j]? = some o → listed.getD j true = false → ¬ ∀ e ∈ anyEdges o, listed.getD e false = true := fun j o ho hu hall => by
        have : j ∈ Region.ready .any ops listed := ready_iff.2 ⟨hu, o, ho, hall⟩
        rw [hr] at this; cases this
      have hlt : ∀ p ∈ pl, ¬ listed.getD p.i false = true → listed.getD p.i true = false := fun p hp hn => by
        rcases Nat.lt_or_ge p.i listed.size with h' | h'
        · simp [h'] at hn ⊢; exact hn
        · exfalso
          -- placed, but out of the list: it would be ready
          exact absurd h' (by have := h.siz; obtain ⟨o, g1, _⟩ := h.pls.good p hp; have := (Array.getElem?_eq_some_iff.1 g1).1; omega)
      have hall : ∀ p ∈ pl, listed.getD p.i false = true := fun p hp => by
        refine (hS p.i).resolve_right (fun hn => ?_)
        obtain ⟨q, q1, q2, q3⟩ := some_ready hS h.pls.good h.pls.tail ⟨p, hp, hn⟩
        obtain ⟨o, g1, _⟩ := h.pls.good q q1
        exact hnone q.i o g1 (hlt q q1 q2) (q3 o g1)
      have hp0 : pend = [] := by
        cases hpe : pend with
        | nil => rfl
        | cons q pe =>
          have hqm : q ∈ pend := by rw [hpe]; exact List.mem_cons_self ..
          exact absurd (hall q.1 (h.sub q hqm).1) (unl_not (h.pnl q hqm))
      have hr0 : rest = [] := by
        rcases hn with hn | ⟨x, r, rfl, hx⟩
        · exact hn
        · exfalso
          obtain ⟨o, g1, g2, g3⟩ := (h.rgood x (List.mem_cons_self ..)).op
          obtain ⟨l', h1, h2, _⟩ := draws_cons h.drw
          refine hnone x.i o g1 (h.rnl x (List.mem_cons_self ..)) (fun e he => ?_)
          obtain ⟨p, hp, rfl⟩ := (okPl_spec h1).ed e (g3 ▸ he)
          exact hall p hp
      subst hp0; subst hr0
      have hd := h.drw
      simp only [draws] at hd
      cases hd
      have hr := h.run
      simp only [opsA] at hr
      cases hr
      have hag : ∀ d, tmS.get d = tm1.get d := fun d => h.agree d (fun q hq => by cases hq)
      exact hq env a w ⟨h.st.g, fun i v hv => h.st.t i v (by rw [hag]; exact hv), h.st.n, fun d hd => by rw [← hag]; exact h.st.m d hd, h.st.s, h.st.d⟩ h.tr
    · obtain ⟨hu, o, ho, he⟩ := ready_iff.1 hi
      rcases h.cov i o ho hu with ⟨q, hq, rfl⟩ | ⟨x, hx, rfl⟩
      · obtain ⟨A, B, rfl⟩ := List.append_of_mem hq
        exact h.light ho he (fun env' tmS' a' w' h' => ihf h')
      · rcases hn with rfl | ⟨y, r, rfl, hy⟩
        · cases hx
        · rcases List.mem_cons.1 hx with rfl | hx
          · exact h.heavy hih hy ho he (fun env' pl' l' tm' H' nx' ds' tmS' a' w' h' => ihf h')
          · exfalso
            obtain ⟨l', h1, h2, _⟩ := draws_cons h.drw
            have hrg := h.rgood y (List.mem_cons_self ..)
            have hpl := h.pls.cons hrg (okPl_spec h1)
            have hr' : ∀ z ∈ r, RGood P G N ops z := fun z hz => h.rgood z (List.mem_cons_of_mem _ hz)
            obtain ⟨o', g1, g2, g3⟩ := (hr' x hx).op
            rw [ho] at g1; cases g1
            have := behind h.clo hpl hr' h2 (k := y.i) (by show Bool.rec (motive := fun _ => Option Nat) _ _ y.hv = _; rw [hy]) x hx (fun e hm => he e (g3 ▸ hm))
            exact unl_not (h.rnl y (List.mem_cons_self ..)) this

theorem draw_ok (hmix : P.follows .mixedOrders = true) : ∀ ih, CallOK P G ih → DrawOK P G ih := by
  intro ih hih N id ops l hc env tm H nx ds a w x tm1 H1 nx1 ds1 hst h Q hq
  have hx := opsA_zero (P := P) (G := G) h
  subst hx
  unfold cDraw at hc
  split at hc
  · cases hc
  · rename_i ces hces
    have m2 : ∀ x ∈ ordN ops.size 0 (zipPl ops.toList ces 0 0), RGood P G N ops x := ordN_mem (zipPl_good hces (fun k => .inl (by simp)))
    generalize ordN ops.size 0 (zipPl ops.toList ces 0 0) = ps at hc m2
    unfold drawZ at hc
    simp only [cond_eq_ite] at hc
    split at hc
    · rename_i hb
      · simp only [Bool.and_eq_true] at hb
        obtain ⟨hb1, hb2⟩ := hb
        have hlike : Like w { w with drawn := w.drawn + 1 } := ⟨rfl, rfl, rfl, rfl⟩
        obtain ⟨k1, k2⟩ := hst.s.like (G := G) hlike
        refine wp_region_any hmix (any_ok hih (env0 := env) (H0 := H) (nx0 := nx) (w0 := w) hq ops.size (env := env) (pl := []) (pend := []) (rest := ps) (l := l) (tm := tm) (H := H) (nx := nx) (ds := ds) (tmS := tm) ?_)
        refine ⟨⟨fun p hp => (by cases hp), fun p hp => (by cases hp), trivial, fun p hp => (by cases hp)⟩, m2, hc, h, ?_, ?_, fun q hq => (by cases hq), ?_, by simp, fun q hq => (by cases hq), (draws_apart hc).2, List.Pairwise.nil, fun q hq => (by cases hq), ?_, ⟨hst.g, hst.t, hst.n, hst.m, k1, hst.d⟩, fun _ _ => rfl, k2, fun q hq => (by cases hq)⟩
        · intro i o ho hl
          exfalso
          have : (Array.replicate ops.size false).getD i false = false := by
            simp only [Array.getD_eq_getD_getElem?, Array.getElem?_replicate]
            split <;> rfl
          rw [this] at hl; cases hl
        · intro j o ho _
          have hlt : j < ops.size := (Array.getElem?_eq_some_iff.1 ho).1
          have := List.all_eq_true.1 hb2 j (List.mem_range.2 hlt)
          rw [bitsOf_mem, List.mem_map] at this
          obtain ⟨x, hx, e⟩ := this
          exact .inr ⟨x, hx, e⟩
        · intro x hx
          obtain ⟨o, g1, _⟩ := (m2 x hx).op
          have hlt : x.i < ops.size := (Array.getElem?_eq_some_iff.1 g1).1
          simp [Array.getElem?_replicate, hlt]
        · have e1 := Nat.eq_of_beq_eq_true hb1
          simp only [List.length_nil]
          omega
    · cases hc
end Go.Ev

namespace Go.Ev
open Go.Lib
variable {P : Program} {G : Nat} {env : Env} {W w : World}

def env0 (G : Nat) : Env := fun id => if id < G then some ⟨id, 0, 0, 0⟩ else none
theorem env0_lt {G id : Nat} {L : Loc} (h : env0 G id = some L) : id < G ∧ L = ⟨id, 0, 0, 0⟩ := by
  unfold env0 at h; split at h
  · rename_i e; cases h; exact ⟨e, rfl⟩
  · cases h
theorem env0_GL (G : Nat) : GL G (env0 G) := fun g h => ⟨⟨g, 0, 0, 0⟩, by simp [env0, h], rfl, rfl⟩

/-- the start: the globals that are laid, and no other block -/
theorem start_SR {H0 : Hp} (hsz : G ≤ W.heap.size) (hH : ∀ g o, H0.get g = some o → g < G ∧ (o = .dead ∨ ∃ ob, W.heap[g]? = some ob ∧ OR (env0 G) ⟨g, 0, 0, 0⟩ o ob)) : SR (env0 G) H0 G W := by
  refine ⟨fun id L o hL ho => ?_, fun id L hL => ?_, fun id id' L L' o o' hL hL' ho ho' _ _ e => ?_, fun id hid => ?_⟩
  · obtain ⟨h1, rfl⟩ := env0_lt hL
    obtain ⟨_, h2⟩ := hH id o ho
    rcases h2 with rfl | h2
    · exact ⟨W.heap[id], by simp [Array.getElem?_eq_getElem (show id < W.heap.size by omega)], trivial⟩
    · exact h2
  · obtain ⟨h1, rfl⟩ := env0_lt hL
    exact ⟨by show id < _; omega, h1⟩
  · obtain ⟨h1, rfl⟩ := env0_lt hL
    obtain ⟨h2, rfl⟩ := env0_lt hL'
    exact e
  · cases h : H0.get id with
    | none => rfl
    | some o => have := (hH id o h).1; omega

def strA (l : List UInt8) : AV := .str (l.map (·.toNat))
def strsA (ls : List (List UInt8)) : AV := AV.ofList (ls.map strA)

theorem VL_ofList : ∀ {l : List AV} {vs : List Value}, l.length = vs.length → (∀ (i : Nat) (x : AV) (v : Value), l[i]? = some x → vs[i]? = some v → VR env x v) → VL env (AV.ofList l) vs
  | [], [], _, _ => rfl
  | [], v :: vs, h, _ => by cases h
  | x :: l, [], h, _ => by cases h
  | x :: l, v :: vs, h, hv => ⟨v, vs, rfl, hv 0 x v rfl rfl, VL_ofList (by simpa using h) (fun i x' v' h1 h2 => hv (i + 1) x' v' (by simpa using h1) (by simpa using h2))⟩

/-- an array of strings that reads so -/
theorem strs_of_array {H : Type} {enc : TypeId × Value → H} {base : Nat} {sp : Nat → Bool} {held : Bool} {fuel : Nat} {t e : TypeId} {n : Nat} {cs : List Value} {ls : List (List UInt8)} {p : List MemPlace} (ht : P.underlying t = some (.array n e)) (he : P.underlying e = some .string) (hce : P.cellsOf e = 1)
    (h : DataW.trod enc P w base sp held fuel t cs = some (.agg (ls.map fun l => .lit (.string l)), p)) (hn : ls.length = n) (hcs : cs.length = n) : VL env (strsA ls) cs := by
  refine VL_ofList (by simp [hn, hcs]) (fun i x v hx hv => ?_)
  have hi : i < n := by
    have := (List.getElem?_eq_some_iff.1 hx).1
    simp at this; omega
  obtain ⟨fuel', d, q, hd, hr⟩ := array_elem ht h i hi
  obtain ⟨s, e1, e2, _⟩ := DataW.trod_string he hr
  rw [hce, Nat.mul_one] at e1
  have e3 := congrArg (·[0]?) e1
  simp only [List.getElem?_take, List.getElem?_drop, Nat.add_zero, List.getElem?_cons_zero] at e3
  simp at e3
  rw [hv] at e3; cases e3
  simp only [List.getElem?_map, Option.map_eq_some_iff] at hx hd
  obtain ⟨l, hl, rfl⟩ := hx
  obtain ⟨l', hl', e5⟩ := hd
  rw [hl] at hl'; cases hl'
  rw [← e5] at e2
  simp only [Prod.mk.injEq, DataW.lit.injEq, Lit.string.injEq] at e2
  exact ⟨s, rfl, by rw [e2.1]⟩

/-- a row of the globals -/
theorem start_row {name : String} {ls : List (List UInt8)} {g t e n : Nat} {z : Array Value} (hr : VarReads P W name (.agg (ls.map fun l => .lit (.string l)))) (hg : P.globalNamed name = some g) (hgl : g < P.globals.size)
    (hty : (P.globals[g]?).map (·.type) = some t) (ht : P.underlying t = some (.array n e)) (he : P.underlying e = some .string) (hce : P.cellsOf e = 1) (hn : ls.length = n)
    (hs : W.ShapedOpen P) (hz : (((begin P (fun _ _ => 0) default).world.heap[g]?).bind Obj.row?) = some (z, t)) (hzs : z.size = n) {c : T AV} (hc : rowOf (strsA ls) = some c) :
    ∃ ob, W.heap[g]? = some ob ∧ OR env ⟨g, 0, 0, 0⟩ (.cells c n 0 t) ob := by
  obtain ⟨cs, h1, h2, _⟩ := hs.1 g z t hgl hz
  obtain ⟨g', t', cs', fuel, p, k1, k2, k3, k4⟩ := hr
  rw [hg] at k1; cases k1
  rw [hty] at k2; cases k2
  have : cs' = cs := by
    simp only [World.var?, hg, Option.bind_some, h1, Option.some.injEq] at k3
    exact k3.symm
  subst this
  have hv : VL env (strsA ls) cs'.toList := strs_of_array ht he hce k4 hn (by simp [h2, hzs])
  have hlen : (strsA ls).len = n := by rw [hv.len]; simp [h2, hzs]
  refine ⟨_, h1, ?_⟩
  have := OR_row (env := env) hc hv g t
  rw [hlen] at this
  exact this

/-- what stands at these places, in a row -/
noncomputable def hpOf : List AO → Nat → Hp → Option Hp
  | [], _, H => some H
  | o :: l, i, H => (match H.put i o with | some H' => hpOf l (i + 1) H' | none => none)
theorem hpOf_get : ∀ {l : List AO} {i : Nat} {H H' : Hp}, hpOf l i H = some H' → ∀ j, H'.get j = if i ≤ j ∧ j < i + l.length then l[j - i]? else H.get j
  | [], i, H, H', h, j => by cases h; simp; omega
  | o :: l, i, H, H', h, j => by
    simp only [hpOf] at h
    split at h
    · rename_i H1 h1
      rw [hpOf_get h j, T.get_put h1]
      simp only [List.length_cons]
      by_cases e : j = i
      · subst e; simp; omega
      · by_cases e2 : i + 1 ≤ j ∧ j < i + 1 + l.length
        · have e3 : i ≤ j ∧ j < i + (l.length + 1) := by omega
          rw [if_pos e2, if_pos e3, show j - i = (j - (i + 1)) + 1 by omega, List.getElem?_cons_succ]
        · have e3 : ¬ (i ≤ j ∧ j < i + (l.length + 1)) := by omega
          rw [if_neg e2, if_neg e3, if_neg e]
    · cases h

def okT (o : VRes) : Bool := match o with | .ok (.bool b) _ _ => b | _ => false
theorem okT_spec {o : VRes} (h : okT o = true) : ∃ H nx, o = .ok (.bool true) H nx := by
  unfold okT at h
  split at h
  · rename_i b H nx; cases h; exact ⟨H, nx, rfl⟩
  · cases h

theorem calls_true {ih : Nat → AV → Hp → Nat → VRes} (hrun : CallOK P G ih) {f : Nat} {fn : Func} (hf : P.funcs[f]? = some fn) (hb : fn.body.isNone = false) (hn : (fn.name == "runtime.NumGoroutine") = false)
    {args : AV} {H0 : Hp} (h : okT (ih f args H0 G) = true) (hs : SR (env0 G) H0 G W) {xs : Array Value} (hv : VL (env0 G) args xs.toList) :
    Calls P f xs W fun e w' => e = .returned (.bool true) ∧ W.heap.size ≤ w'.heap.size ∧ (∀ b, b < W.heap.size → w'.heap[b]? = W.heap[b]?) ∧ w'.os = W.os ∧ w'.tape = W.tape ∧ w'.output = W.output := by
  obtain ⟨H', nx', e⟩ := okT_spec h
  rcases hrun f args H0 G _ H' nx' e (env0 G) W xs (env0_GL G) hv hs with ⟨_, r2⟩ | ⟨c, w', r1, _⟩
  · refine r2.mono ?_
    rintro e w' ⟨c, rfl, env', q1, q2, q3⟩
    simp only [VR] at q1
    subst q1
    exact ⟨rfl, q3.size, fun b hb => q3.frame b hb (fun id L hG hL => absurd (env0_lt hL).1 (by omega)), q3.os, q3.tape, q3.output⟩
  · exfalso
    simp only [callFunc, Sem.run_bind, run_program, Result.andThen_ok, hf, hn, hb, Bool.false_eq_true, if_false, Sem.run_pure] at r1
    cases r1
end Go.Ev

namespace Go.Ev

/-! A quick evaluator: what is compiled is closures, kept in structures; what follows is told to each. -/
abbrev K := T AV → Hp → Nat → DS → VRes
abbrev KC := AV → Hp → Nat → VRes
abbrev CLf := Nat → AV → Hp → Nat → KC → VRes
structure Gt where
  g : T AV → Option AV
structure Sd where
  s : T AV → AV → T AV
  ok : Bool
structure Fo where
  run : CLf → K → K
structure FC where
  run : CLf → Nat → K → (Nat → K) → K
structure FF where
  run : CLf → Nat → AV → Hp → Nat → KC → VRes

def small (i : Nat) : Bool := Nat.ble (Nat.succ i) 4096
def mkG (x : CO) : Gt := CO.rec (motive := fun _ => Gt) (fun i => Bool.rec (motive := fun _ => Gt) ⟨fun _ => none⟩ ⟨(T.acc AV i).get⟩ (small i)) (fun v => ⟨fun _ => some v⟩) x
def mkS (d : Option Nat) : Sd := Option.rec (motive := fun _ => Sd) ⟨fun tm _ => tm, true⟩ (fun i => ⟨fun tm v => (T.acc AV i).set tm (some v), small i⟩) d
def optE {α : Type} (o : Option α) (c : α → VRes) (d : VRes) : VRes := Option.rec (motive := fun _ => VRes) d c o
def boE (b : Bool) (c d : VRes) : VRes := Bool.rec (motive := fun _ => VRes) d c b
def asNat (n : Int) (c : Nat → VRes) (d : VRes) : VRes := Int.rec (motive := fun _ => VRes) c (fun _ => d) n
abbrev CO4 := T AV → Nat → Nat → Nat → VRes
def asCells (o : AO) (c : CO4) (d : VRes) : VRes := AO.rec (motive := fun _ => VRes) c (fun _ _ => d) (fun _ _ _ _ => d) (fun _ _ => d) d o
def asIntx0 (_ : Bool) (_ : IntKind → Int → VRes) (d : VRes) : VRes := d
def asInt_int (k : IntKind) (n : Int) (c : IntKind → Int → VRes) (d : VRes) : VRes := c k n
def asIntx1 (_ : List Nat) (_ : IntKind → Int → VRes) (d : VRes) : VRes := d
def asIntx2  (_ : IntKind → Int → VRes) (d : VRes) : VRes := d
def asIntx3 (_ _ : Nat) (_ : IntKind → Int → VRes) (d : VRes) : VRes := d
def asIntx4 (_ _ _ : Nat) (_ : Option Nat) (_ : IntKind → Int → VRes) (d : VRes) : VRes := d
def asIntx5 (_ : Nat) (_ : IntKind → Int → VRes) (d : VRes) : VRes := d
def asIntx6 (_ : Fn) (_ _ : AV) (_ _ : ((IntKind → Int → VRes) → VRes → VRes)) (_ : IntKind → Int → VRes) (d : VRes) : VRes := d
def asIntx7 (_ : Nat) (_ : AV) (_ : ((IntKind → Int → VRes) → VRes → VRes)) (_ : IntKind → Int → VRes) (d : VRes) : VRes := d
def asIntx8 (_ _ : AV) (_ _ : ((IntKind → Int → VRes) → VRes → VRes)) (_ : IntKind → Int → VRes) (d : VRes) : VRes := d
def asIntx9 (_ : AV) (_ : ((IntKind → Int → VRes) → VRes → VRes)) (_ : IntKind → Int → VRes) (d : VRes) : VRes := d
def asIntx10 (_ _ : Option Int) (_ : IntKind → Int → VRes) (d : VRes) : VRes := d
def asIntx11 (_ : IntKind) (_ _ : Nat) (_ : IntKind → Int → VRes) (d : VRes) : VRes := d
def asInt (v : AV) : (IntKind → Int → VRes) → VRes → VRes := AV.rec (motive := fun _ => (IntKind → Int → VRes) → VRes → VRes) asIntx0 asInt_int asIntx1 asIntx2 asIntx3 asIntx2 asIntx4 asIntx2 asIntx2 asIntx5 asIntx6 asIntx2 asIntx7 asIntx2 asIntx2 asIntx8 asIntx9 asIntx9 asIntx2 asIntx10 asIntx11 v
def asPtrx0 (_ : Bool) (_ : Nat → Nat → VRes) (d : VRes) : VRes := d
def asPtrx1 (_ : IntKind) (_ : Int) (_ : Nat → Nat → VRes) (d : VRes) : VRes := d
def asPtrx2 (_ : List Nat) (_ : Nat → Nat → VRes) (d : VRes) : VRes := d
def asPtrx3  (_ : Nat → Nat → VRes) (d : VRes) : VRes := d
def asPtr_ptr (a b : Nat) (c : Nat → Nat → VRes) (d : VRes) : VRes := c a b
def asPtrx4 (_ _ _ : Nat) (_ : Option Nat) (_ : Nat → Nat → VRes) (d : VRes) : VRes := d
def asPtrx5 (_ : Nat) (_ : Nat → Nat → VRes) (d : VRes) : VRes := d
def asPtrx6 (_ : Fn) (_ _ : AV) (_ _ : ((Nat → Nat → VRes) → VRes → VRes)) (_ : Nat → Nat → VRes) (d : VRes) : VRes := d
def asPtrx7 (_ : Nat) (_ : AV) (_ : ((Nat → Nat → VRes) → VRes → VRes)) (_ : Nat → Nat → VRes) (d : VRes) : VRes := d
def asPtrx8 (_ _ : AV) (_ _ : ((Nat → Nat → VRes) → VRes → VRes)) (_ : Nat → Nat → VRes) (d : VRes) : VRes := d
def asPtrx9 (_ : AV) (_ : ((Nat → Nat → VRes) → VRes → VRes)) (_ : Nat → Nat → VRes) (d : VRes) : VRes := d
def asPtrx10 (_ _ : Option Int) (_ : Nat → Nat → VRes) (d : VRes) : VRes := d
def asPtrx11 (_ : IntKind) (_ _ : Nat) (_ : Nat → Nat → VRes) (d : VRes) : VRes := d
def asPtr (v : AV) : (Nat → Nat → VRes) → VRes → VRes := AV.rec (motive := fun _ => (Nat → Nat → VRes) → VRes → VRes) asPtrx0 asPtrx1 asPtrx2 asPtrx3 asPtr_ptr asPtrx3 asPtrx4 asPtrx3 asPtrx3 asPtrx5 asPtrx6 asPtrx3 asPtrx7 asPtrx3 asPtrx3 asPtrx8 asPtrx9 asPtrx9 asPtrx3 asPtrx10 asPtrx11 v
def asSlx0 (_ : Bool) (_ : Nat → Nat → Nat → VRes) (d : VRes) : VRes := d
def asSlx1 (_ : IntKind) (_ : Int) (_ : Nat → Nat → Nat → VRes) (d : VRes) : VRes := d
def asSlx2 (_ : List Nat) (_ : Nat → Nat → Nat → VRes) (d : VRes) : VRes := d
def asSlx3  (_ : Nat → Nat → Nat → VRes) (d : VRes) : VRes := d
def asSlx4 (_ _ : Nat) (_ : Nat → Nat → Nat → VRes) (d : VRes) : VRes := d
def asSl_sl (a b n : Nat) (_ : Option Nat) (c : Nat → Nat → Nat → VRes) (d : VRes) : VRes := c a b n
def asSlx5 (_ : Nat) (_ : Nat → Nat → Nat → VRes) (d : VRes) : VRes := d
def asSlx6 (_ : Fn) (_ _ : AV) (_ _ : ((Nat → Nat → Nat → VRes) → VRes → VRes)) (_ : Nat → Nat → Nat → VRes) (d : VRes) : VRes := d
def asSlx7 (_ : Nat) (_ : AV) (_ : ((Nat → Nat → Nat → VRes) → VRes → VRes)) (_ : Nat → Nat → Nat → VRes) (d : VRes) : VRes := d
def asSlx8 (_ _ : AV) (_ _ : ((Nat → Nat → Nat → VRes) → VRes → VRes)) (_ : Nat → Nat → Nat → VRes) (d : VRes) : VRes := d
def asSlx9 (_ : AV) (_ : ((Nat → Nat → Nat → VRes) → VRes → VRes)) (_ : Nat → Nat → Nat → VRes) (d : VRes) : VRes := d
def asSlx10 (_ _ : Option Int) (_ : Nat → Nat → Nat → VRes) (d : VRes) : VRes := d
def asSlx11 (_ : IntKind) (_ _ : Nat) (_ : Nat → Nat → Nat → VRes) (d : VRes) : VRes := d
def asSl (v : AV) : (Nat → Nat → Nat → VRes) → VRes → VRes := AV.rec (motive := fun _ => (Nat → Nat → Nat → VRes) → VRes → VRes) asSlx0 asSlx1 asSlx2 asSlx3 asSlx4 asSlx3 asSl_sl asSlx3 asSlx3 asSlx5 asSlx6 asSlx3 asSlx7 asSlx3 asSlx3 asSlx8 asSlx9 asSlx9 asSlx3 asSlx10 asSlx11 v
def asBool_bool (b : Bool) (c : Bool → VRes) (d : VRes) : VRes := c b
def asBoolx0 (_ : IntKind) (_ : Int) (_ : Bool → VRes) (d : VRes) : VRes := d
def asBoolx1 (_ : List Nat) (_ : Bool → VRes) (d : VRes) : VRes := d
def asBoolx2  (_ : Bool → VRes) (d : VRes) : VRes := d
def asBoolx3 (_ _ : Nat) (_ : Bool → VRes) (d : VRes) : VRes := d
def asBoolx4 (_ _ _ : Nat) (_ : Option Nat) (_ : Bool → VRes) (d : VRes) : VRes := d
def asBoolx5 (_ : Nat) (_ : Bool → VRes) (d : VRes) : VRes := d
def asBoolx6 (_ : Fn) (_ _ : AV) (_ _ : ((Bool → VRes) → VRes → VRes)) (_ : Bool → VRes) (d : VRes) : VRes := d
def asBoolx7 (_ : Nat) (_ : AV) (_ : ((Bool → VRes) → VRes → VRes)) (_ : Bool → VRes) (d : VRes) : VRes := d
def asBoolx8 (_ _ : AV) (_ _ : ((Bool → VRes) → VRes → VRes)) (_ : Bool → VRes) (d : VRes) : VRes := d
def asBoolx9 (_ : AV) (_ : ((Bool → VRes) → VRes → VRes)) (_ : Bool → VRes) (d : VRes) : VRes := d
def asBoolx10 (_ _ : Option Int) (_ : Bool → VRes) (d : VRes) : VRes := d
def asBoolx11 (_ : IntKind) (_ _ : Nat) (_ : Bool → VRes) (d : VRes) : VRes := d
def asBool (v : AV) : (Bool → VRes) → VRes → VRes := AV.rec (motive := fun _ => (Bool → VRes) → VRes → VRes) asBool_bool asBoolx0 asBoolx1 asBoolx2 asBoolx3 asBoolx2 asBoolx4 asBoolx2 asBoolx2 asBoolx5 asBoolx6 asBoolx2 asBoolx7 asBoolx2 asBoolx2 asBoolx8 asBoolx9 asBoolx9 asBoolx2 asBoolx10 asBoolx11 v
def asTupx0 (_ : Bool) (_ : AV → VRes) (d : VRes) : VRes := d
def asTupx1 (_ : IntKind) (_ : Int) (_ : AV → VRes) (d : VRes) : VRes := d
def asTupx2 (_ : List Nat) (_ : AV → VRes) (d : VRes) : VRes := d
def asTupx3  (_ : AV → VRes) (d : VRes) : VRes := d
def asTupx4 (_ _ : Nat) (_ : AV → VRes) (d : VRes) : VRes := d
def asTupx5 (_ _ _ : Nat) (_ : Option Nat) (_ : AV → VRes) (d : VRes) : VRes := d
def asTupx6 (_ : Nat) (_ : AV → VRes) (d : VRes) : VRes := d
def asTupx7 (_ : Fn) (_ _ : AV) (_ _ : ((AV → VRes) → VRes → VRes)) (_ : AV → VRes) (d : VRes) : VRes := d
def asTupx8 (_ : Nat) (_ : AV) (_ : ((AV → VRes) → VRes → VRes)) (_ : AV → VRes) (d : VRes) : VRes := d
def asTupx9 (_ _ : AV) (_ _ : ((AV → VRes) → VRes → VRes)) (_ : AV → VRes) (d : VRes) : VRes := d
def asTupx10 (_ : AV) (_ : ((AV → VRes) → VRes → VRes)) (_ : AV → VRes) (d : VRes) : VRes := d
def asTup_tup (l : AV) (_ : ((AV → VRes) → VRes → VRes)) (c : AV → VRes) (d : VRes) : VRes := c l
def asTupx11 (_ _ : Option Int) (_ : AV → VRes) (d : VRes) : VRes := d
def asTupx12 (_ : IntKind) (_ _ : Nat) (_ : AV → VRes) (d : VRes) : VRes := d
def asTup (v : AV) : (AV → VRes) → VRes → VRes := AV.rec (motive := fun _ => (AV → VRes) → VRes → VRes) asTupx0 asTupx1 asTupx2 asTupx3 asTupx4 asTupx3 asTupx5 asTupx3 asTupx3 asTupx6 asTupx7 asTupx3 asTupx8 asTupx3 asTupx3 asTupx9 asTupx10 asTup_tup asTupx3 asTupx11 asTupx12 v

section
variable (P : Program) (G : Nat)
/-- any operation but a call, as the slow one does it -/
def fGenR (k : K) (r : ER) : VRes := ER.rec (motive := fun _ => VRes) .no (fun x tm H nx ds => Nat.rec (motive := fun _ => VRes) (k tm H nx ds) (fun _ _ => .no) x) r
def fGen (ce : CE) (k : K) (tm : T AV) (H : Hp) (nx : Nat) (ds : DS) : VRes :=
  fGenR k (opA P G (fun _ _ _ _ => .no) ce tm H nx ds (fun tm H nx ds => .ok 0 tm H nx ds))
/-! operations: what is met often, in a quick way; all else as the slow one does it -/
def fMv (x : Gt) (s : Sd) (k : K) (tm : T AV) (H : Hp) (nx : Nat) (ds : DS) : VRes := optE (x.g tm) (fun v => k (s.s tm v) H nx ds) .no
def fLoad (x : Gt) (s : Sd) (k : K) (tm : T AV) (H : Hp) (nx : Nat) (ds : DS) : VRes :=
  optE (x.g tm) (fun v => asPtr v (fun id off => optE (H.get id) (fun o => asCells o (fun c _ _ _ => optE (c.get off) (fun u => k (s.s tm u) H nx ds) .no) .no) .no) .no) .no
/-- two ints of one kind -/
def fII (f : IntKind → Int → Int → AV) (ce : CE) (x y : Gt) (s : Sd) (k : K) (tm : T AV) (H : Hp) (nx : Nat) (ds : DS) : VRes :=
  optE (x.g tm) (fun a => optE (y.g tm) (fun b => asInt a (fun k1 n => asInt b (fun k2 m => boE (Nat.beq (kcode k1) (kcode k2)) (k (s.s tm (f k1 n m)) H nx ds) .no) (fGen P G ce k tm H nx ds)) (fGen P G ce k tm H nx ds)) .no) .no
def rAdd (k : IntKind) (n m : Int) : AV := .int k (wrapF k (iadd n m))
def rSub (k : IntKind) (n m : Int) : AV := .int k (wrapF k (iadd n (ineg m)))
def rMul (k : IntKind) (n m : Int) : AV := .int k (wrapF k (imul n m))
def rLss (_ : IntKind) (n m : Int) : AV := .bool (!(ile m n))
def rLeq (_ : IntKind) (n m : Int) : AV := .bool (ile n m)
def rGtr (_ : IntKind) (n m : Int) : AV := .bool (!(ile n m))
def rGeq (_ : IntKind) (n m : Int) : AV := .bool (ile m n)
def rEq (_ : IntKind) (n m : Int) : AV := .bool (ieq n m)
def rNe (_ : IntKind) (n m : Int) : AV := .bool (!(ieq n m))
def fFaddr (off : Nat) (x : Gt) (s : Sd) (k : K) (tm : T AV) (H : Hp) (nx : Nat) (ds : DS) : VRes :=
  optE (x.g tm) (fun v => asPtr v (fun id o => k (s.s tm (.ptr id (Nat.add o off))) H nx ds) .no) .no
def fNil (ce : CE) (x : Gt) (s : Sd) (k : K) (tm : T AV) (H : Hp) (nx : Nat) (ds : DS) : VRes :=
  optE (x.g tm) (fun v => asPtr v (fun id o => k (s.s tm (.ptr id o)) H nx ds) (fGen P G ce k tm H nx ds)) .no
def fIdxS (z : Nat) (x i : Gt) (s : Sd) (k : K) (tm : T AV) (H : Hp) (nx : Nat) (ds : DS) : VRes :=
  optE (x.g tm) (fun v => optE (i.g tm) (fun j => asSl v (fun id o len => asInt j (fun _ n => asNat n (fun m => boE (Nat.blt m len) (k (s.s tm (.ptr id (Nat.add o (Nat.mul m z)))) H nx ds) .no) .no) .no) .no) .no) .no
def fPick (c a b : Gt) (s : Sd) (k : K) (tm : T AV) (H : Hp) (nx : Nat) (ds : DS) : VRes :=
  optE (c.g tm) (fun v => asBool v (fun t => boE t (optE (a.g tm) (fun u => k (s.s tm u) H nx ds) .no) (optE (b.g tm) (fun u => k (s.s tm u) H nx ds) .no)) .no) .no
def fToInt (j : IntKind) (ce : CE) (x : Gt) (s : Sd) (k : K) (tm : T AV) (H : Hp) (nx : Nat) (ds : DS) : VRes :=
  optE (x.g tm) (fun v => asInt v (fun _ n => k (s.s tm (.int j (wrapF j n))) H nx ds) (fGen P G ce k tm H nx ds)) .no
def fExt (i : Nat) (x : Gt) (s : Sd) (k : K) (tm : T AV) (H : Hp) (nx : Nat) (ds : DS) : VRes :=
  optE (x.g tm) (fun v => asTup v (fun l => optE (l.nth i) (fun u => k (s.s tm u) H nx ds) .no) .no) .no
def fNot (x : Gt) (s : Sd) (k : K) (tm : T AV) (H : Hp) (nx : Nat) (ds : DS) : VRes :=
  optE (x.g tm) (fun v => asBool v (fun b => k (s.s tm (.bool (!b))) H nx ds) .no) .no
def fLenS (ce : CE) (x : Gt) (s : Sd) (k : K) (tm : T AV) (H : Hp) (nx : Nat) (ds : DS) : VRes :=
  optE (x.g tm) (fun v => asSl v (fun _ _ n => k (s.s tm (.int .i64 (.ofNat n))) H nx ds) (fGen P G ce k tm H nx ds)) .no
def fAlloc (c : T AV) (n e : Nat) (s : Sd) (k : K) (tm : T AV) (H : Hp) (nx : Nat) (ds : DS) : VRes :=
  optE (H.put nx (.cells c n 0 e)) (fun H => k (s.s tm (.ptr nx 0)) H (Nat.succ nx) ds) .no
def fStore1 (ce : CE) (a x : Gt) (k : K) (tm : T AV) (H : Hp) (nx : Nat) (ds : DS) : VRes :=
  optE (a.g tm) (fun p => optE (x.g tm) (fun v => boE (oneA v) (asPtr p (fun id off => optE (H.get id) (fun o => asCells o (fun c n sz e =>
    boE (Nat.ble G id) (boE (Nat.ble (Nat.succ off) n) (optE (c.put off v) (fun c' => optE (H.put id (.cells c' n sz e)) (fun H' => k tm H' nx ds) .no) .no) .no) .no) .no) .no) .no) (fGen P G ce k tm H nx ds)) .no) .no
/-- a call -/
def fCall (ce : CE) (cl : CLf) (k : K) (tm : T AV) (H : Hp) (nx : Nat) (ds : DS) : VRes :=
  match holdsG tm ce.guard with
  | some true => (match heavyA P G ce.co tm H nx with
    | .call f args => cl f args H nx (fun a H nx => match putD tm ce.dst a with | some tm => boE (chkA P tm H ce.chk) (k tm H nx ds) .no | none => .no)
    | _ => .no)
  | _ => fGen P G ce k tm H nx ds
/-- a call of a function that is named, where nothing stands guard -/
def fCallF (f : Nat) (xs : List CO) (s : Sd) (cl : CLf) (k : K) (tm : T AV) (H : Hp) (nx : Nat) (ds : DS) : VRes :=
  optE (opds tm xs) (fun args => cl f args H nx (fun a H nx => k (s.s tm a) H nx ds)) .no
def fBin (op : BinOp) (ce : CE) (x y : Gt) (s : Sd) (d : Fo) : Fo := BinOp.rec (motive := fun _ => Fo) ⟨fun _ => fII P G rAdd ce x y s⟩ ⟨fun _ => fII P G rSub ce x y s⟩ ⟨fun _ => fII P G rMul ce x y s⟩ d d d d d d d d d d ⟨fun _ => fII P G rLss ce x y s⟩ ⟨fun _ => fII P G rLeq ce x y s⟩ ⟨fun _ => fII P G rGtr ce x y s⟩ ⟨fun _ => fII P G rGeq ce x y s⟩ op
def nilL : AV → Bool | .nil => true | _ => false
def fEq (ce : CE) (ng : Bool) (k : EqK) (x y : CO) (s : Sd) : Fo :=
  match k with
  | .s .int => bif ng then ⟨fun _ => fII P G rNe ce (mkG x) (mkG y) s⟩ else ⟨fun _ => fII P G rEq ce (mkG x) (mkG y) s⟩
  | _ => ⟨fun _ => fGen P G ce⟩
def fLen (ce : CE) (k : EqS) (x : CO) (s : Sd) : Fo := match k with | .slice => ⟨fun _ => fLenS P G ce (mkG x) s⟩ | _ => ⟨fun _ => fGen P G ce⟩
def fAl (ce : CE) (z : AV) (e : Nat) (s : Sd) : Fo := match rowOf z with | some c => (match z.len with | n => ⟨fun _ => fAlloc c n e s⟩) | none => ⟨fun _ => fGen P G ce⟩
def fSt (ce : CE) (n : Nat) (a x : CO) : Fo := bif Nat.beq n 1 && ce.chk.isEmpty && !(isSomeN ce.dst) then ⟨fun _ => fStore1 P G ce (mkG a) (mkG x)⟩ else ⟨fun _ => fGen P G ce⟩
def fCa (ce : CE) (c : Cal) (xs : List CO) (s : Sd) : Fo :=
  bif ce.chk.isEmpty then (match c with
    | .val (.c (.fn (.func f) first cap)) => bif nilL first && nilL cap then ⟨fCallF f xs s⟩ else ⟨fCall P G ce⟩
    | _ => ⟨fCall P G ce⟩) else ⟨fCall P G ce⟩
end
def hp_mv (x : CO) (P : Program) (G : Nat) (ce : CE) (s : Sd) : Fo := ⟨fun _ => fMv (mkG x) s⟩
def hp_pick (c a b : CO) (P : Program) (G : Nat) (ce : CE) (s : Sd) : Fo := ⟨fun _ => fPick (mkG c) (mkG a) (mkG b) s⟩
def hp_bin (op : BinOp) (x y : CO) (P : Program) (G : Nat) (ce : CE) (s : Sd) : Fo := fBin P G op ce (mkG x) (mkG y) s ⟨fun _ => fGen P G ce⟩
def hp_eq (ng : Bool) (k : EqK) (x y : CO) (P : Program) (G : Nat) (ce : CE) (s : Sd) : Fo := fEq P G ce ng k x y s
def hp_not (x : CO) (P : Program) (G : Nat) (ce : CE) (s : Sd) : Fo := ⟨fun _ => fNot (mkG x) s⟩
def hpx0 (_ : CO) (P : Program) (G : Nat) (ce : CE) (_ : Sd) : Fo := ⟨fun _ => fGen P G ce⟩
def hp_toInt (j : IntKind) (x : CO) (P : Program) (G : Nat) (ce : CE) (s : Sd) : Fo := ⟨fun _ => fToInt P G j ce (mkG x) s⟩
def hp_nilchk (x : CO) (P : Program) (G : Nat) (ce : CE) (s : Sd) : Fo := ⟨fun _ => fNil P G ce (mkG x) s⟩
def hpx1 (_ : Nat) (_ : CO) (P : Program) (G : Nat) (ce : CE) (_ : Sd) : Fo := ⟨fun _ => fGen P G ce⟩
def hpx2 (_ : Fn) (_ : List CO) (_ : List CO) (P : Program) (G : Nat) (ce : CE) (_ : Sd) : Fo := ⟨fun _ => fGen P G ce⟩
def hp_faddr (off : Nat) (x : CO) (P : Program) (G : Nat) (ce : CE) (s : Sd) : Fo := ⟨fun _ => fFaddr off (mkG x) s⟩
def hpx3 (_ : Nat) (_ : Nat) (_ : CO) (P : Program) (G : Nat) (ce : CE) (_ : Sd) : Fo := ⟨fun _ => fGen P G ce⟩
def hpx4 (_ : Nat) (_ : Nat) (_ : CO) (_ : CO) (P : Program) (G : Nat) (ce : CE) (_ : Sd) : Fo := ⟨fun _ => fGen P G ce⟩
def hp_idxS (z : Nat) (x i : CO) (P : Program) (G : Nat) (ce : CE) (s : Sd) : Fo := ⟨fun _ => fIdxS z (mkG x) (mkG i) s⟩
def hpx5 (_ : CO) (_ : CO) (P : Program) (G : Nat) (ce : CE) (_ : Sd) : Fo := ⟨fun _ => fGen P G ce⟩
def hpx6 (_ : AV) (_ : List (Nat × Nat × CO)) (P : Program) (G : Nat) (ce : CE) (_ : Sd) : Fo := ⟨fun _ => fGen P G ce⟩
def hpx7 (_ : CO) (_ : Option CO) (_ : Option CO) (P : Program) (G : Nat) (ce : CE) (_ : Sd) : Fo := ⟨fun _ => fGen P G ce⟩
def hpx8 (_ : Nat) (_ : Nat) (_ : CO) (_ : Option CO) (_ : Option CO) (_ : Option CO) (P : Program) (G : Nat) (ce : CE) (_ : Sd) : Fo := ⟨fun _ => fGen P G ce⟩
def hp_extract (i : Nat) (x : CO) (P : Program) (G : Nat) (ce : CE) (s : Sd) : Fo := ⟨fun _ => fExt i (mkG x) s⟩
def hpx9 (_ : Nat) (_ : Option AV) (_ : CO) (P : Program) (G : Nat) (ce : CE) (_ : Sd) : Fo := ⟨fun _ => fGen P G ce⟩
def hpx10 (_ : List (String × Nat)) (_ : Option AV) (_ : CO) (P : Program) (G : Nat) (ce : CE) (_ : Sd) : Fo := ⟨fun _ => fGen P G ce⟩
def hp_load (x : CO) (P : Program) (G : Nat) (ce : CE) (s : Sd) : Fo := ⟨fun _ => fLoad (mkG x) s⟩
def hpx11 (_ : Nat) (_ : CO) (_ : Option CO) (_ : Option CO) (_ : Option CO) (P : Program) (G : Nat) (ce : CE) (_ : Sd) : Fo := ⟨fun _ => fGen P G ce⟩
def hp_len (k : EqS) (x : CO) (P : Program) (G : Nat) (ce : CE) (s : Sd) : Fo := fLen P G ce k x s
def hpx12 (_ : EqS) (_ : AV) (_ : Bool) (_ : CO) (_ : CO) (P : Program) (G : Nat) (ce : CE) (_ : Sd) : Fo := ⟨fun _ => fGen P G ce⟩
def hp_alloc (z : AV) (e : Nat) (P : Program) (G : Nat) (ce : CE) (s : Sd) : Fo := fAl P G ce z e s
def hpx13 (_ : AV) (_ : Nat) (_ : Nat) (_ : Nat) (_ : List (Nat × Nat × CO)) (P : Program) (G : Nat) (ce : CE) (_ : Sd) : Fo := ⟨fun _ => fGen P G ce⟩
def hpx14  (P : Program) (G : Nat) (ce : CE) (_ : Sd) : Fo := ⟨fun _ => fGen P G ce⟩
def hpx15 (_ : AV) (_ : Nat) (_ : Nat) (_ : CO) (_ : CO) (P : Program) (G : Nat) (ce : CE) (_ : Sd) : Fo := ⟨fun _ => fGen P G ce⟩
def hp_store (n : Nat) (a x : CO) (P : Program) (G : Nat) (ce : CE) (s : Sd) : Fo := fSt P G ce n a x
def hpx16 (_ : EqS) (_ : CO) (_ : CO) (_ : CO) (P : Program) (G : Nat) (ce : CE) (_ : Sd) : Fo := ⟨fun _ => fGen P G ce⟩
def hpx17 (_ : Bool) (_ : CO) (P : Program) (G : Nat) (ce : CE) (_ : Sd) : Fo := ⟨fun _ => fGen P G ce⟩
def hpx18 (_ : Nat) (_ : CO) (_ : CO) (P : Program) (G : Nat) (ce : CE) (_ : Sd) : Fo := ⟨fun _ => fGen P G ce⟩
def hpx19 (_ : EqS) (_ : CO) (_ : CO) (P : Program) (G : Nat) (ce : CE) (_ : Sd) : Fo := ⟨fun _ => fGen P G ce⟩
def hpx20 (_ : Bool) (_ : List CO) (P : Program) (G : Nat) (ce : CE) (_ : Sd) : Fo := ⟨fun _ => fGen P G ce⟩
def hp_call (c : Cal) (xs : List CO) (P : Program) (G : Nat) (ce : CE) (s : Sd) : Fo := fCa P G ce c xs s
def hpx21 (_ : CO) (_ : List CO) (P : Program) (G : Nat) (ce : CE) (_ : Sd) : Fo := ⟨fun _ => fGen P G ce⟩
section
variable (P : Program) (G : Nat)
def fPlain (ce : CE) (s : Sd) : Fo := COp.rec (motive := fun _ => Program → Nat → CE → Sd → Fo) hp_mv hp_pick hp_bin hp_eq hp_not hpx0 hp_toInt hp_nilchk hpx1 hpx2 hp_faddr hpx1 hpx3 hpx4 hp_idxS hpx5 hpx4 hpx4 hpx6 hpx7 hpx8 hp_extract hpx9 hpx10 hp_load hpx1 hpx11 hp_len hpx1 hpx0 hpx12 hpx0 hpx0 hpx0 hpx3 hpx0 hp_alloc hpx1 hpx13 hpx14 hpx15 hpx1 hp_store hpx16 hpx17 hpx17 hpx4 hpx18 hpx19 hpx20 hpx18 hp_call hpx21 ce.co P G ce s
def isCall (c : COp) : Bool := match c with | .call _ _ => true | _ => false
def fSlow (ce : CE) : Fo := bif isCall ce.co && Nat.ble 3 ce.kd then ⟨fCall P G ce⟩ else ⟨fun _ => fGen P G ce⟩
/-- the same, where nothing stands guard -/
def CE.ung (ce : CE) : CE := ⟨ce.dst, none, ce.kd, ce.co, ce.chk⟩
def sameB (w b : Bool) : Bool := Bool.rec (motive := fun _ => Bool) (bn b) b w
def fGuard (ce : CE) (g : Gt) (w : Bool) (s : Sd) (fo : Fo) (cl : CLf) (k : K) (tm : T AV) (H : Hp) (nx : Nat) (ds : DS) : VRes :=
  optE (g.g tm) (fun v => asBool v (fun b => boE (sameB w b) (fo.run cl k tm H nx ds) (k (s.s tm undefA) H nx ds)) (fGen P G ce k tm H nx ds)) .no
def fGrd (ce : CE) (g : Nat × Bool) : Fo := Bool.rec (motive := fun _ => Fo) (fSlow P G ce) ⟨fGuard P G ce (mkG (.t g.1)) g.2 (mkS ce.dst) (fPlain P G ce.ung (mkS ce.dst))⟩ (bz (mkS ce.dst).ok (Nat.beq ce.kd (kindK ce.co)) false)
def fOp (ce : CE) : Fo := Option.rec (motive := fun _ => Fo) (Bool.rec (motive := fun _ => Fo) (fSlow P G ce) (fPlain P G ce (mkS ce.dst)) (bz (mkS ce.dst).ok (Nat.beq ce.kd (kindK ce.co)) false)) (fun g => fGrd P G ce g) ce.guard
def fNilOps (_ : CLf) (k : K) : K := k
def fConsOps (a b : Fo) (cl : CLf) (k : K) : K := a.run cl (b.run cl k)
def fOps (l : List CE) : Fo := List.rec (motive := fun _ => Fo) ⟨fNilOps⟩ (fun ce _ r => ⟨fConsOps (fOp P G ce) r⟩) l

/-! code -/
def noK : K := fun _ _ _ _ => .no
def fBad (_ : CLf) (_ : Nat) (_ : K) (_ : Nat → K) : K := noK
def fSkip (_ : CLf) (_ : Nat) (kn : K) (_ : Nat → K) : K := kn
def fExit (x : Nat) (_ : CLf) (_ : Nat) (_ : K) (kx : Nat → K) : K := kx x
def fSeq (a b : FC) (cl : CLf) (m : Nat) (kn : K) (kx : Nat → K) : K := a.run cl m (b.run cl m kn kx) kx
def fCond (c : Gt) (a b : FC) (cl : CLf) (m : Nat) (kn : K) (kx : Nat → K) (tm : T AV) (H : Hp) (nx : Nat) (ds : DS) : VRes :=
  optE (c.g tm) (fun v => asBool v (fun t => boE t (a.run cl m kn kx tm H nx ds) (b.run cl m kn kx tm H nx ds)) .no) .no
def outK (id : Nat) (kn : K) (kx : Nat → K) (x : Nat) : K := Bool.rec (motive := fun _ => K) (kx x) kn (Nat.beq x id)
def fBlock (id : Nat) (b : FC) (cl : CLf) (m : Nat) (kn : K) (kx : Nat → K) : K := b.run cl m kn (outK id kn kx)
def fLoop (b : FC) (cl : CLf) (m : Nat) (_ : K) (kx : Nat → K) : K := Nat.rec (motive := fun _ => K) noK (fun _ ih => b.run cl m ih kx) m
def fOpsC (l : Fo) (cl : CLf) (_ : Nat) (kn : K) (_ : Nat → K) : K := l.run cl kn
def fC (c : CC) : FC := CC.rec (motive := fun _ => FC) ⟨fBad⟩ ⟨fSkip⟩ ⟨fExit 1⟩ (fun id => ⟨fExit (Nat.add id 2)⟩) (fun _ _ a b => ⟨fSeq a b⟩) (fun c _ _ a b => ⟨fCond (mkG c) a b⟩)
  (fun id _ b => ⟨fBlock (Nat.add id 2) b⟩) (fun _ b => ⟨fLoop b⟩) (fun l => ⟨fOpsC (fOps P G l)⟩) c

def fEnd (rf : Nat) (res : List CRes) (kc : KC) (tm : T AV) (H : Hp) (nx : Nat) (ds : DS) : VRes :=
  match runD (rdA rf) ds H nx with
  | .no => .no
  | .ok _ H nx => optE (resA tm H res) (fun l => kc (resOf l) H nx) .no
def fRetK (k : K) (x : Nat) : K := Bool.rec (motive := fun _ => K) noK k (Nat.beq x 1)
def fGo (rf : Nat) (c : FC) (N : Nat) (res : List CRes) (cl : CLf) (m : Nat) (args : AV) (H : Hp) (nx : Nat) (kc : KC) : VRes :=
  optE (initT N args) (fun tm => c.run cl m (fEnd rf res kc) (fRetK (fEnd rf res kc)) tm H nx []) .no
def fExtn (x : Ext) (_ : CLf) (_ : Nat) (args : AV) (H : Hp) (nx : Nat) (kc : KC) : VRes := match extA x args H nx with | .v a H nx => kc a H nx | _ => .no
def fNone (_ : CLf) (_ : Nat) (_ : AV) (_ : Hp) (_ : Nat) (_ : KC) : VRes := .no
def fFn (rf : Nat) (f : Nat) : FF := match cFn P G f with | .bad => ⟨fNone⟩ | .ext x => ⟨fExtn x⟩ | .go c N res => ⟨fGo rf (fC P G c) N res⟩
/-- a function's number that is reckoned first -/
def fFnN (rf : Nat) (f : Nat) : FF := Nat.rec (motive := fun _ => FF) (fFn P G rf 0) (fun j _ => fFn P G rf (Nat.succ j)) f
def fcall (rf : Nat) (m : Nat) (n : Nat) : CLf := Nat.rec (motive := fun _ => CLf) (fun _ _ _ _ _ => .no) (fun _ ih f args H nx kc => (fFnN P G rf f).run ih m args H nx kc) n
def fin (v : AV) (H : Hp) (nx : Nat) : VRes := .ok v H nx
end
end Go.Ev

namespace Go.Ev
variable {P : Program} {G rf : Nat}

/-- what the slow one comes to, given enough fuel -/
def EvR (P : Program) (G rf : Nat) (c : CC) (tm : T AV) (H : Hp) (nx : Nat) (ds : DS) (x : Nat) (tm' : T AV) (H' : Hp) (nx' : Nat) (ds' : DS) : Prop :=
  ∃ n0, ∀ n, n0 ≤ n → ev P G rf n c tm H nx ds = .ok x tm' H' nx' ds'
def CallR (P : Program) (G rf : Nat) (f : Nat) (args : AV) (H : Hp) (nx : Nat) (v : AV) (H' : Hp) (nx' : Nat) : Prop :=
  ∃ n0, ∀ n, n0 ≤ n → callA P G (ev P G rf n) (rdA rf) f args H nx = .ok v H' nx'
/-- operations in a row -/
def OpsR (P : Program) (G rf : Nat) (l : List CE) (tm : T AV) (H : Hp) (nx : Nat) (ds : DS) (tm' : T AV) (H' : Hp) (nx' : Nat) (ds' : DS) : Prop :=
  ∃ n0, ∀ n, n0 ≤ n → opsA P G (callA P G (ev P G rf n) (rdA rf)) l tm H nx ds = .ok 0 tm' H' nx' ds'
/-- one operation, whatever follows -/
def OpR (P : Program) (G rf : Nat) (ce : CE) (tm : T AV) (H : Hp) (nx : Nat) (ds : DS) (tm' : T AV) (H' : Hp) (nx' : Nat) (ds' : DS) : Prop :=
  ∃ n0, ∀ n, n0 ≤ n → ∀ k : Kont, opA P G (callA P G (ev P G rf n) (rdA rf)) ce tm H nx ds k = k tm' H' nx' ds'

/-- a call is what the slow one does -/
def CFok (P : Program) (G rf : Nat) (cl : CLf) : Prop := ∀ f args H nx kc r H1 nx1, cl f args H nx kc = .ok r H1 nx1 → ∃ v H' nx', CallR P G rf f args H nx v H' nx' ∧ kc v H' nx' = .ok r H1 nx1
def FoOK (P : Program) (G rf : Nat) (ce : CE) (F : CLf → K → K) : Prop := ∀ cl, CFok P G rf cl → ∀ k tm H nx ds r H1 nx1, F cl k tm H nx ds = .ok r H1 nx1 →
  ∃ tm' H' nx' ds', OpR P G rf ce tm H nx ds tm' H' nx' ds' ∧ k tm' H' nx' ds' = .ok r H1 nx1
def FosOK (P : Program) (G rf : Nat) (l : List CE) (F : CLf → K → K) : Prop := ∀ cl, CFok P G rf cl → ∀ k tm H nx ds r H1 nx1, F cl k tm H nx ds = .ok r H1 nx1 →
  ∃ tm' H' nx' ds', OpsR P G rf l tm H nx ds tm' H' nx' ds' ∧ k tm' H' nx' ds' = .ok r H1 nx1
def FCok (P : Program) (G rf : Nat) (c : CC) (F : CLf → Nat → K → (Nat → K) → K) : Prop := ∀ cl, CFok P G rf cl → ∀ m kn kx tm H nx ds r H1 nx1, F cl m kn kx tm H nx ds = .ok r H1 nx1 →
  ∃ x tm' H' nx' ds', EvR P G rf c tm H nx ds x tm' H' nx' ds' ∧ ((x = 0 ∧ kn tm' H' nx' ds' = .ok r H1 nx1) ∨ (x ≠ 0 ∧ kx x tm' H' nx' ds' = .ok r H1 nx1))

theorem optE_ok {α : Type} {o : Option α} {c : α → VRes} {r : AV} {H1 : Hp} {nx1 : Nat} (h : optE o c .no = .ok r H1 nx1) : ∃ a, o = some a ∧ c a = .ok r H1 nx1 := by
  cases o with
  | none => cases h
  | some a => exact ⟨a, rfl, h⟩
theorem boE_ok {b : Bool} {c : VRes} {r : AV} {H1 : Hp} {nx1 : Nat} (h : boE b c .no = .ok r H1 nx1) : b = true ∧ c = .ok r H1 nx1 := by
  cases b with
  | false => cases h
  | true => exact ⟨rfl, h⟩

/-! code -/
theorem fops_ok (hop : ∀ ce, FoOK P G rf ce (fOp P G ce).run) : ∀ l : List CE, FosOK P G rf l (fOps P G l).run := by
  intro l
  induction l with
  | nil =>
    intro cl hcl k tm H nx ds r H1 nx1 h
    exact ⟨tm, H, nx, ds, ⟨0, fun n _ => rfl⟩, h⟩
  | cons ce l ih =>
    intro cl hcl k tm H nx ds r H1 nx1 h
    have h : (fOp P G ce).run cl ((fOps P G l).run cl k) tm H nx ds = .ok r H1 nx1 := h
    obtain ⟨tm1, H2, nx2, ds1, ⟨n1, q1⟩, e1⟩ := hop ce cl hcl _ _ _ _ _ _ _ _ h
    obtain ⟨tm2, H3, nx3, ds2, ⟨n2, q2⟩, e2⟩ := ih cl hcl _ _ _ _ _ _ _ _ e1
    refine ⟨tm2, H3, nx3, ds2, ⟨max n1 n2, fun n hn => ?_⟩, e2⟩
    have := q1 n (by omega) (opsA P G (callA P G (ev P G rf n) (rdA rf)) l)
    show opA P G _ ce tm H nx ds (opsA P G (callA P G (ev P G rf n) (rdA rf)) l) = _
    rw [this]
    exact q2 n (by omega)

theorem ev_succ (n : Nat) (c : CC) (tm : T AV) (H : Hp) (nx : Nat) (ds : DS) : ev P G rf (n + 1) c tm H nx ds = stepC P G (callA P G (ev P G rf n) (rdA rf)) (ev P G rf n) c tm H nx ds := rfl

theorem evR_of {c : CC} {tm : T AV} {H : Hp} {nx : Nat} {ds : DS} {x : Nat} {tm' : T AV} {H' : Hp} {nx' : Nat} {ds' : DS} (n0 : Nat)
    (h : ∀ n, n0 ≤ n → stepC P G (callA P G (ev P G rf n) (rdA rf)) (ev P G rf n) c tm H nx ds = .ok x tm' H' nx' ds') : EvR P G rf c tm H nx ds x tm' H' nx' ds' :=
  ⟨n0 + 1, fun n hn => by
    obtain ⟨m, rfl⟩ : ∃ m, n = m + 1 := ⟨n - 1, by omega⟩
    exact h m (by omega)⟩

theorem fc_ok (hop : ∀ ce, FoOK P G rf ce (fOp P G ce).run) (hg : ∀ (x : CO) (tm : T AV) (v : AV), (mkG x).g tm = some v → opd tm x = some v) (hb : ∀ (v : AV) (c : Bool → VRes) r H1 nx1, asBool v c .no = .ok r H1 nx1 → ∃ b, v = .bool b ∧ c b = .ok r H1 nx1) :
    ∀ c : CC, FCok P G rf c (fC P G c).run := by
  intro c
  induction c with
  | bad => intro cl hcl m kn kx tm H nx ds r H1 nx1 h; cases h
  | skip => intro cl hcl m kn kx tm H nx ds r H1 nx1 h; exact ⟨0, tm, H, nx, ds, evR_of 0 (fun _ _ => rfl), .inl ⟨rfl, h⟩⟩
  | ret => intro cl hcl m kn kx tm H nx ds r H1 nx1 h; exact ⟨1, tm, H, nx, ds, evR_of 0 (fun _ _ => rfl), .inr ⟨by decide, h⟩⟩
  | exit id => intro cl hcl m kn kx tm H nx ds r H1 nx1 h; exact ⟨id + 2, tm, H, nx, ds, evR_of 0 (fun _ _ => rfl), .inr ⟨by omega, h⟩⟩
  | seq a b iha ihb =>
    intro cl hcl m kn kx tm H nx ds r H1 nx1 h
    have h : (fC P G a).run cl m ((fC P G b).run cl m kn kx) kx tm H nx ds = .ok r H1 nx1 := h
    obtain ⟨x, tm1, H2, nx2, ds1, ⟨n1, q1⟩, e⟩ := iha cl hcl _ _ _ _ _ _ _ _ _ _ h
    rcases e with ⟨rfl, e⟩ | ⟨hx, e⟩
    · obtain ⟨y, tm2, H3, nx3, ds2, ⟨n2, q2⟩, e2⟩ := ihb cl hcl _ _ _ _ _ _ _ _ _ _ e
      refine ⟨y, tm2, H3, nx3, ds2, evR_of (max n1 n2) (fun n hn => ?_), e2⟩
      simp only [stepC, q1 n (by omega)]
      exact q2 n (by omega)
    · refine ⟨x, tm1, H2, nx2, ds1, evR_of n1 (fun n hn => ?_), .inr ⟨hx, e⟩⟩
      simp only [stepC, q1 n hn]
      cases x with
      | zero => exact absurd rfl hx
      | succ x => rfl
  | cond c a b iha ihb =>
    intro cl hcl m kn kx tm H nx ds r H1 nx1 h
    have h : optE ((mkG c).g tm) (fun v => asBool v (fun t => boE t ((fC P G a).run cl m kn kx tm H nx ds) ((fC P G b).run cl m kn kx tm H nx ds)) .no) .no = .ok r H1 nx1 := h
    obtain ⟨v, e1, h⟩ := optE_ok h
    obtain ⟨t, rfl, h⟩ := hb _ _ _ _ _ h
    have e2 := hg _ _ _ e1
    cases t with
    | true =>
      obtain ⟨x, tm1, H2, nx2, ds1, ⟨n1, q1⟩, e⟩ := iha cl hcl _ _ _ _ _ _ _ _ _ _ h
      exact ⟨x, tm1, H2, nx2, ds1, evR_of n1 (fun n hn => by simp only [stepC, e2]; exact q1 n hn), e⟩
    | false =>
      obtain ⟨x, tm1, H2, nx2, ds1, ⟨n1, q1⟩, e⟩ := ihb cl hcl _ _ _ _ _ _ _ _ _ _ h
      exact ⟨x, tm1, H2, nx2, ds1, evR_of n1 (fun n hn => by simp only [stepC, e2]; exact q1 n hn), e⟩
  | block id b ihb =>
    intro cl hcl m kn kx tm H nx ds r H1 nx1 h
    have h : (fC P G b).run cl m kn (outK (Nat.add id 2) kn kx) tm H nx ds = .ok r H1 nx1 := h
    obtain ⟨x, tm1, H2, nx2, ds1, ⟨n1, q1⟩, e⟩ := ihb cl hcl _ _ _ _ _ _ _ _ _ _ h
    rcases e with ⟨rfl, e⟩ | ⟨hx, e⟩
    · refine ⟨0, tm1, H2, nx2, ds1, evR_of n1 (fun n hn => ?_), .inl ⟨rfl, e⟩⟩
      simp only [stepC, q1 n hn]
      have : Nat.beq 0 (Nat.add id 2) = false := rfl
      rw [this]; rfl
    · unfold outK at e
      cases hb : Nat.beq x (Nat.add id 2) with
      | true =>
        rw [hb] at e
        refine ⟨0, tm1, H2, nx2, ds1, evR_of n1 (fun n hn => ?_), .inl ⟨rfl, e⟩⟩
        simp only [stepC, q1 n hn, hb, cond_true]
      | false =>
        rw [hb] at e
        refine ⟨x, tm1, H2, nx2, ds1, evR_of n1 (fun n hn => ?_), .inr ⟨hx, e⟩⟩
        simp only [stepC, q1 n hn, hb, cond_false]
  | loop b ihb =>
    intro cl hcl m kn kx
    have key : ∀ (j : Nat) tm H nx ds r H1 nx1, (Nat.rec (motive := fun _ => K) noK (fun _ ih => (fC P G b).run cl m ih kx) j : K) tm H nx ds = .ok r H1 nx1 →
        ∃ x tm' H' nx' ds', EvR P G rf (.loop b) tm H nx ds x tm' H' nx' ds' ∧ x ≠ 0 ∧ kx x tm' H' nx' ds' = .ok r H1 nx1 := by
      intro j
      induction j with
      | zero => intro tm H nx ds r H1 nx1 h; cases h
      | succ j ihj =>
        intro tm H nx ds r H1 nx1 h
        have h : (fC P G b).run cl m (Nat.rec (motive := fun _ => K) noK (fun _ ih => (fC P G b).run cl m ih kx) j) kx tm H nx ds = .ok r H1 nx1 := h
        obtain ⟨x, tm1, H2, nx2, ds1, ⟨n1, q1⟩, e⟩ := ihb cl hcl _ _ _ _ _ _ _ _ _ _ h
        rcases e with ⟨rfl, e⟩ | ⟨hx, e⟩
        · obtain ⟨y, tm2, H3, nx3, ds2, ⟨n2, q2⟩, hy, e2⟩ := ihj _ _ _ _ _ _ _ e
          refine ⟨y, tm2, H3, nx3, ds2, evR_of (max n1 n2) (fun n hn => ?_), hy, e2⟩
          simp only [stepC, q1 n (by omega)]
          exact q2 n (by omega)
        · refine ⟨x, tm1, H2, nx2, ds1, evR_of n1 (fun n hn => ?_), hx, e⟩
          simp only [stepC, q1 n hn]
          cases x with
          | zero => exact absurd rfl hx
          | succ x => rfl
    intro tm H nx ds r H1 nx1 h
    obtain ⟨x, tm1, H2, nx2, ds1, q, hx, e⟩ := key m _ _ _ _ _ _ _ h
    exact ⟨x, tm1, H2, nx2, ds1, q, .inr ⟨hx, e⟩⟩
  | ops l =>
    intro cl hcl m kn kx tm H nx ds r H1 nx1 h
    have h : (fOps P G l).run cl kn tm H nx ds = .ok r H1 nx1 := h
    obtain ⟨tm1, H2, nx2, ds1, ⟨n1, q1⟩, e⟩ := fops_ok hop l cl hcl _ _ _ _ _ _ _ _ h
    exact ⟨0, tm1, H2, nx2, ds1, evR_of n1 (fun n hn => q1 n hn), .inl ⟨rfl, e⟩⟩

/-! functions -/
theorem callA_eq (n : Nat) (f : Nat) (args : AV) (H : Hp) (nx : Nat) : callA P G (ev P G rf n) (rdA rf) f args H nx =
    (match cFn P G f with
  | .bad => .no
  | .ext x => (match extA x args H nx with | .v a H nx => .ok a H nx | _ => .no)
  | .go c N res => (match initT N args with
    | none => .no
    | some tm => (match ev P G rf n c tm H nx [] with
      | .no => .no
      | .ok x tm H nx ds => bif Nat.ble x 1 then (match runD (rdA rf) ds H nx with
          | .no => .no
          | .ok _ H nx => (match resA tm H res with | some l => .ok (resOf l) H nx | none => .no)) else .no))) := rfl

theorem end_ok {res : List CRes} {kc : KC} {tm : T AV} {H : Hp} {nx : Nat} {ds : DS} {r : AV} {H1 : Hp} {nx1 : Nat} (h : fEnd rf res kc tm H nx ds = .ok r H1 nx1) :
    ∃ u H' nx' l, runD (rdA rf) ds H nx = .ok u H' nx' ∧ resA tm H' res = some l ∧ kc (resOf l) H' nx' = .ok r H1 nx1 := by
  unfold fEnd at h
  split at h
  · cases h
  · rename_i u H' nx' e
    obtain ⟨l, e1, h⟩ := optE_ok h
    exact ⟨u, H', nx', l, e, e1, h⟩

theorem fn_ok (hc : ∀ c, FCok P G rf c (fC P G c).run) (f : Nat) {cl : CLf} (hcl : CFok P G rf cl) (m : Nat) {args : AV} {H : Hp} {nx : Nat} {kc : KC} {r : AV} {H1 : Hp} {nx1 : Nat} (h : (fFn P G rf f).run cl m args H nx kc = .ok r H1 nx1) :
    ∃ v H' nx', CallR P G rf f args H nx v H' nx' ∧ kc v H' nx' = .ok r H1 nx1 := by
  unfold fFn at h
  split at h
  · cases h
  · rename_i x hf
    simp only [fExtn] at h
    split at h
    · rename_i a H' nx' e
      refine ⟨a, H', nx', ⟨0, fun n _ => ?_⟩, h⟩
      rw [callA_eq, hf]
      simp only [e]
    · cases h
  · rename_i c N res hf
    obtain ⟨tm, hi, h⟩ := optE_ok h
    obtain ⟨x, tm1, H2, nx2, ds1, ⟨n1, q1⟩, e⟩ := hc c cl hcl _ _ _ _ _ _ _ _ _ _ h
    have fin : x ≤ 1 → fEnd rf res kc tm1 H2 nx2 ds1 = .ok r H1 nx1 → ∃ v H' nx', CallR P G rf f args H nx v H' nx' ∧ kc v H' nx' = .ok r H1 nx1 := by
      intro hx h
      obtain ⟨u, H', nx', l, e1, e2, e3⟩ := end_ok h
      refine ⟨resOf l, H', nx', ⟨n1, fun n hn => ?_⟩, e3⟩
      rw [callA_eq, hf]
      have : Nat.ble x 1 = true := Nat.ble_eq_true_of_le hx
      simp only [hi, q1 n hn, this, cond_true, e1, e2]
    rcases e with ⟨rfl, e⟩ | ⟨hx, e⟩
    · exact fin (by omega) e
    · unfold fRetK at e
      cases hb : Nat.beq x 1 with
      | true => rw [hb] at e; exact fin (by rw [Nat.eq_of_beq_eq_true hb]; exact Nat.le_refl _) e
      | false => rw [hb] at e; cases e

theorem fFnN_eq (f : Nat) : fFnN P G rf f = fFn P G rf f := by cases f <;> rfl
theorem fcall_ok (hc : ∀ c, FCok P G rf c (fC P G c).run) (m : Nat) : ∀ n, CFok P G rf (fcall P G rf m n) := by
  intro n
  induction n with
  | zero => intro f args H nx kc r H1 nx1 h; cases h
  | succ n ih =>
    intro f args H nx kc r H1 nx1 h
    have h : (fFnN P G rf f).run (fcall P G rf m n) m args H nx kc = .ok r H1 nx1 := h
    rw [fFnN_eq] at h
    exact fn_ok hc f ih m h
end Go.Ev

namespace Go.Ev
variable {P : Program} {G rf : Nat}

theorem opA_acts' {ih : Nat → AV → Hp → Nat → VRes} {ce : CE} {k : Kont} {tm : T AV} {H : Hp} {nx : Nat} {ds : DS} {j : Nat} (hg : holdsG tm ce.guard = some true) (hkd : ce.kd = j + 3) :
    opA P G ih ce tm H nx ds k = (match heavyA P G ce.co tm H nx with
              | .no => ER.no
              | .v a H nx => (match putD tm ce.dst a with | some tm => bif chkA P tm H ce.chk then k tm H nx ds else ER.no | none => ER.no)
              | .call f args => (match ih f args H nx with
                | .no => ER.no
                | .ok a H nx => (match putD tm ce.dst a with | some tm => bif chkA P tm H ce.chk then k tm H nx ds else ER.no | none => ER.no))
              | .defer f args => (match putD tm ce.dst undefA with | some tm => bif chkA P tm H ce.chk then k tm H nx ((f, args) :: ds) else ER.no | none => ER.no)) := by
  unfold opA
  rw [hg, hkd]
  rfl
theorem opA_new {ih : Nat → AV → Hp → Nat → VRes} {ce : CE} {k : Kont} {tm : T AV} {H : Hp} {nx : Nat} {ds : DS} (hg : holdsG tm ce.guard = some true) (hkd : ce.kd = 2) :
    opA P G ih ce tm H nx ds k = (match newA ce.co tm nx with
              | none => ER.no
              | some (v, o) => (match H.put nx o, putD tm ce.dst v with | some H, some tm => k tm H (Nat.succ nx) ds | _, _ => .no)) := by
  unfold opA
  rw [hg, hkd]
  rfl

/-- any operation but a call: whatever follows -/
theorem opA_uniform {ce : CE} {tm : T AV} {H : Hp} {nx : Nat} {ds : DS} {x : Nat} {tm' : T AV} {H' : Hp} {nx' : Nat} {ds' : DS}
    (h : opA P G (fun _ _ _ _ => .no) ce tm H nx ds (fun tm H nx ds => .ok 0 tm H nx ds) = .ok x tm' H' nx' ds') : ∀ ih k, opA P G ih ce tm H nx ds k = k tm' H' nx' ds' := by
  intro ih k
  cases hg : holdsG tm ce.guard with
  | none => unfold opA at h; rw [hg] at h; cases h
  | some b =>
    cases b with
    | false =>
      rw [opA_not hg] at h ⊢
      split at h
      · rename_i t e; cases h; rfl
      · cases h
    | true =>
      rcases (by omega : ce.kd = 0 ∨ ce.kd = 1 ∨ ce.kd = 2 ∨ 3 ≤ ce.kd) with hk | hk | hk | hk
      · rw [opA_pure hg hk] at h ⊢
        split at h
        · rename_i v e1
          split at h
          · rename_i t e2; cases h; simp only [e1, e2]
          · cases h
        · cases h
      · rw [opA_read hg hk] at h ⊢
        split at h
        · rename_i v e1
          split at h
          · rename_i t e2; cases h; simp only [e1, e2]
          · cases h
        · cases h
      · rw [opA_new hg hk] at h ⊢
        split at h
        · cases h
        · rename_i v o e1
          split at h
          · rename_i H2 t e2 e3; cases h; simp only [e1, e2, e3]
          · cases h
      · obtain ⟨j, hk⟩ : ∃ j, ce.kd = j + 3 := ⟨ce.kd - 3, by omega⟩
        rw [opA_acts' hg hk] at h ⊢
        split at h
        · cases h
        · rename_i v H2 nx2 e1
          split at h
          · rename_i t e2
            cases hc : chkA P t H2 ce.chk <;> rw [hc] at h
            · cases h
            · cases h; simp only [e1, e2, hc, cond_true]
          · cases h
        · cases h
        · rename_i f args e1
          split at h
          · rename_i t e2
            cases hc : chkA P t H ce.chk <;> rw [hc] at h
            · cases h
            · cases h; simp only [e1, e2, hc, cond_true]
          · cases h

theorem gen_ok (ce : CE) {k : K} {tm : T AV} {H : Hp} {nx : Nat} {ds : DS} {r : AV} {H1 : Hp} {nx1 : Nat} (h : fGen P G ce k tm H nx ds = .ok r H1 nx1) :
    ∃ tm' H' nx' ds', OpR P G rf ce tm H nx ds tm' H' nx' ds' ∧ k tm' H' nx' ds' = .ok r H1 nx1 := by
  unfold fGen at h
  cases e : opA P G (fun _ _ _ _ => .no) ce tm H nx ds (fun tm H nx ds => .ok 0 tm H nx ds) with
  | no => rw [e] at h; cases h
  | ok x tm' H' nx' ds' =>
    rw [e] at h
    cases x with
    | zero => exact ⟨tm', H', nx', ds', ⟨0, fun n _ k' => opA_uniform e _ k'⟩, h⟩
    | succ x => cases h

theorem small_lt {i : Nat} (h : small i = true) : i < 4096 := Nat.le_of_ble_eq_true h
theorem mkG_ok (x : CO) (tm : T AV) (v : AV) (h : (mkG x).g tm = some v) : opd tm x = some v := by
  cases x with
  | c u => exact h
  | t i =>
    show tm.get i = some v
    have h : (Bool.rec (motive := fun _ => Gt) ⟨fun _ => none⟩ ⟨(T.acc AV i).get⟩ (small i) : Gt).g tm = some v := h
    cases hs : small i with
    | false => rw [hs] at h; cases h
    | true =>
      rw [hs] at h
      have hi := small_lt hs
      rw [T.get_in (by omega), ← T.acc_eq (by omega)]
      exact h
theorem mkS_ok {d : Option Nat} (h : (mkS d).ok = true) (tm : T AV) (v : AV) : putD tm d v = some ((mkS d).s tm v) := by
  cases d with
  | none => rfl
  | some i =>
    have hi := small_lt (i := i) h
    obtain ⟨t', e⟩ := T.put_of (t := tm) (x := v) (i := i) (by omega)
    show tm.put i v = _
    rw [e]
    obtain ⟨_, e2⟩ := T.put_in e
    rw [e2, ← T.acc_eq (by omega)]
    rfl

/-! what a value is -/
theorem asBool_ok (v : AV) (c : Bool → VRes) (r : AV) (H1 : Hp) (nx1 : Nat) (h : asBool v c .no = .ok r H1 nx1) : ∃ b, v = .bool b ∧ c b = .ok r H1 nx1 := by
  cases v <;> first | exact ⟨_, rfl, h⟩ | cases h
theorem asBool_or {v : AV} {c : Bool → VRes} {d : VRes} {r : AV} {H1 : Hp} {nx1 : Nat} (h : asBool v c d = .ok r H1 nx1) : (∃ b, v = .bool b ∧ c b = .ok r H1 nx1) ∨ d = .ok r H1 nx1 := by
  cases v <;> first | exact .inl ⟨_, rfl, h⟩ | exact .inr h
theorem asInt_or {v : AV} {c : IntKind → Int → VRes} {d : VRes} {r : AV} {H1 : Hp} {nx1 : Nat} (h : asInt v c d = .ok r H1 nx1) : (∃ k n, v = .int k n ∧ c k n = .ok r H1 nx1) ∨ d = .ok r H1 nx1 := by
  cases v <;> first | exact .inl ⟨_, _, rfl, h⟩ | exact .inr h
theorem asPtr_or {v : AV} {c : Nat → Nat → VRes} {d : VRes} {r : AV} {H1 : Hp} {nx1 : Nat} (h : asPtr v c d = .ok r H1 nx1) : (∃ k n, v = .ptr k n ∧ c k n = .ok r H1 nx1) ∨ d = .ok r H1 nx1 := by
  cases v <;> first | exact .inl ⟨_, _, rfl, h⟩ | exact .inr h
theorem asSl_or {v : AV} {c : Nat → Nat → Nat → VRes} {d : VRes} {r : AV} {H1 : Hp} {nx1 : Nat} (h : asSl v c d = .ok r H1 nx1) : (∃ a b n q, v = .sl a b n q ∧ c a b n = .ok r H1 nx1) ∨ d = .ok r H1 nx1 := by
  cases v <;> first | exact .inl ⟨_, _, _, _, rfl, h⟩ | exact .inr h
theorem asTup_or {v : AV} {c : AV → VRes} {d : VRes} {r : AV} {H1 : Hp} {nx1 : Nat} (h : asTup v c d = .ok r H1 nx1) : (∃ l, v = .tup l ∧ c l = .ok r H1 nx1) ∨ d = .ok r H1 nx1 := by
  cases v <;> first | exact .inl ⟨_, rfl, h⟩ | exact .inr h
theorem no_ok {r : AV} {H1 : Hp} {nx1 : Nat} (h : VRes.no = .ok r H1 nx1) : False := by cases h

/-- a pure operation done quickly -/
theorem pure_op {ce : CE} {tm : T AV} {H : Hp} {nx : Nat} {ds : DS} {v : AV} (hg : ce.guard = none) (hk : ce.kd = 0) (hs : (mkS ce.dst).ok = true) (hv : pureA P ce.co tm = some v) :
    OpR P G rf ce tm H nx ds ((mkS ce.dst).s tm v) H nx ds :=
  ⟨0, fun n _ k => by rw [opA_pure (by rw [hg]; rfl) hk, hv]; simp only [mkS_ok hs]⟩
theorem read_op {ce : CE} {tm : T AV} {H : Hp} {nx : Nat} {ds : DS} {v : AV} (hg : ce.guard = none) (hk : ce.kd = 1) (hs : (mkS ce.dst).ok = true) (hv : readA P ce.co tm H = some v) :
    OpR P G rf ce tm H nx ds ((mkS ce.dst).s tm v) H nx ds :=
  ⟨0, fun n _ k => by rw [opA_read (by rw [hg]; rfl) hk, hv]; simp only [mkS_ok hs]⟩
end Go.Ev

namespace Go.Ev
variable {P : Program} {G rf : Nat}

theorem fgen_ok (ce : CE) : FoOK P G rf ce (fun _ => fGen P G ce) := fun _ _ _ _ _ _ _ _ _ _ h => gen_ok ce h

theorem fcallop_ok (ce : CE) (hk : 3 ≤ ce.kd) : FoOK P G rf ce (fCall P G ce) := by
  intro cl hcl k tm H nx ds r H1 nx1 h
  unfold fCall at h
  split at h
  · rename_i hg
    split at h
    · rename_i f args e
      obtain ⟨v, H', nx', ⟨n0, q⟩, e1⟩ := hcl _ _ _ _ _ _ _ _ h
      split at e1
      · rename_i tm' e2
        obtain ⟨e3, e4⟩ := boE_ok e1
        refine ⟨tm', H', nx', ds, ⟨n0, fun n hn k' => ?_⟩, e4⟩
        obtain ⟨j, hj⟩ : ∃ j, ce.kd = j + 3 := ⟨ce.kd - 3, by omega⟩
        rw [opA_acts' hg hj, e]
        simp only [q n hn, e2, e3, cond_true]
      · cases e1
    · cases h
  · exact gen_ok ce h

theorem slow_ok (ce : CE) : FoOK P G rf ce (fSlow P G ce).run := by
  unfold fSlow
  cases h : (isCall ce.co && Nat.ble 3 ce.kd) with
  | false => exact fgen_ok ce
  | true =>
    simp only [Bool.and_eq_true] at h
    exact fcallop_ok ce (Nat.le_of_ble_eq_true h.2)

section
variable {ce : CE} (hg : ce.guard = none) (hs : (mkS ce.dst).ok = true)
include hg hs

theorem mv_ok {x : CO} (hc : ce.co = .mv x) (hk : ce.kd = 0) : FoOK P G rf ce (fun _ => fMv (mkG x) (mkS ce.dst)) := by
  intro cl hcl k tm H nx ds r H1 nx1 h
  obtain ⟨v, e, h⟩ := optE_ok h
  exact ⟨_, _, _, _, pure_op hg hk hs (by rw [hc]; exact mkG_ok _ _ _ e), h⟩
theorem load_ok {x : CO} (hc : ce.co = .load x) (hk : ce.kd = 1) : FoOK P G rf ce (fun _ => fLoad (mkG x) (mkS ce.dst)) := by
  intro cl hcl k tm H nx ds r H1 nx1 h
  obtain ⟨v, e, h⟩ := optE_ok h
  rcases asPtr_or h with ⟨id, off, rfl, h⟩ | h
  · obtain ⟨o, e2, h⟩ := optE_ok h
    cases o with
    | cells c n sz el =>
      obtain ⟨u, e3, h⟩ := optE_ok (o := c.get off) h
      exact ⟨_, _, _, _, read_op hg hk hs (by rw [hc]; simp only [readA, mkG_ok _ _ _ e, e2, e3]), h⟩
    | _ => exact (no_ok h).elim
  · exact (no_ok h).elim
theorem II_ok {f : IntKind → Int → Int → AV} {x y : CO} (hk : ce.kd = 0) (hp : ∀ tm k1 n m, opd tm x = some (.int k1 n) → opd tm y = some (.int k1 m) → pureA P ce.co tm = some (f k1 n m)) :
    FoOK P G rf ce (fun _ => fII P G f ce (mkG x) (mkG y) (mkS ce.dst)) := by
  intro cl hcl k tm H nx ds r H1 nx1 h
  obtain ⟨a, e1, h⟩ := optE_ok h
  obtain ⟨b, e2, h⟩ := optE_ok h
  change asInt a _ _ = _ at h
  rcases asInt_or h with ⟨k1, n, rfl, h⟩ | h
  · change asInt b _ _ = _ at h
    rcases asInt_or h with ⟨k2, m, rfl, h⟩ | h
    · change boE (Nat.beq (kcode k1) (kcode k2)) _ _ = _ at h
      obtain ⟨e3, h4⟩ := boE_ok h
      clear h
      cases kcode_inj e3
      exact ⟨_, _, _, _, pure_op hg hk hs (hp tm _ _ _ (mkG_ok _ _ _ e1) (mkG_ok _ _ _ e2)), h4⟩
    · exact gen_ok ce h
  · exact gen_ok ce h
theorem faddr_ok {off : Nat} {x : CO} (hc : ce.co = .faddr off x) (hk : ce.kd = 0) : FoOK P G rf ce (fun _ => fFaddr off (mkG x) (mkS ce.dst)) := by
  intro cl hcl k tm H nx ds r H1 nx1 h
  obtain ⟨v, e, h⟩ := optE_ok h
  rcases asPtr_or h with ⟨id, o, rfl, h⟩ | h
  · exact ⟨_, _, _, _, pure_op hg hk hs (by rw [hc]; simp only [pureA, mkG_ok _ _ _ e]), h⟩
  · exact (no_ok h).elim
theorem nil_ok {x : CO} (hc : ce.co = .nilchk x) (hk : ce.kd = 0) : FoOK P G rf ce (fun _ => fNil P G ce (mkG x) (mkS ce.dst)) := by
  intro cl hcl k tm H nx ds r H1 nx1 h
  obtain ⟨v, e, h⟩ := optE_ok h
  rcases asPtr_or h with ⟨id, o, rfl, h⟩ | h
  · exact ⟨_, _, _, _, pure_op hg hk hs (by rw [hc]; simp only [pureA, mkG_ok _ _ _ e]), h⟩
  · exact gen_ok ce h
theorem idxS_ok {z : Nat} {x i : CO} (hc : ce.co = .idxS z x i) (hk : ce.kd = 0) : FoOK P G rf ce (fun _ => fIdxS z (mkG x) (mkG i) (mkS ce.dst)) := by
  intro cl hcl k tm H nx ds r H1 nx1 h
  obtain ⟨v, e1, h⟩ := optE_ok h
  obtain ⟨j, e2, h⟩ := optE_ok h
  change asSl v _ _ = _ at h
  rcases asSl_or h with ⟨a, b, n, q, rfl, h⟩ | h
  · change asInt j _ _ = _ at h
    rcases asInt_or h with ⟨k1, m, rfl, h⟩ | h
    · cases m with
      | ofNat m =>
        obtain ⟨e3, h⟩ := boE_ok (b := Nat.blt m n) h
        refine ⟨_, _, _, _, pure_op hg hk hs ?_, h⟩
        rw [hc]
        simp only [pureA, mkG_ok _ _ _ e1, mkG_ok _ _ _ e2, natOf]
        rw [e3]; rfl
      | negSucc m => exact (no_ok h).elim
    · exact (no_ok h).elim
  · exact (no_ok h).elim
theorem pick_ok {c a b : CO} (hc : ce.co = .pick c a b) (hk : ce.kd = 0) : FoOK P G rf ce (fun _ => fPick (mkG c) (mkG a) (mkG b) (mkS ce.dst)) := by
  intro cl hcl k tm H nx ds r H1 nx1 h
  obtain ⟨v, e, h⟩ := optE_ok h
  obtain ⟨t, rfl, h⟩ := asBool_ok _ _ _ _ _ h
  cases t with
  | true =>
    obtain ⟨u, e2, h⟩ := optE_ok (o := (mkG a).g tm) h
    exact ⟨_, _, _, _, pure_op hg hk hs (by rw [hc]; simp only [pureA, mkG_ok _ _ _ e, mkG_ok _ _ _ e2]), h⟩
  | false =>
    obtain ⟨u, e2, h⟩ := optE_ok (o := (mkG b).g tm) h
    exact ⟨_, _, _, _, pure_op hg hk hs (by rw [hc]; simp only [pureA, mkG_ok _ _ _ e, mkG_ok _ _ _ e2]), h⟩
theorem toInt_ok {j : IntKind} {x : CO} (hc : ce.co = .toInt j x) (hk : ce.kd = 0) : FoOK P G rf ce (fun _ => fToInt P G j ce (mkG x) (mkS ce.dst)) := by
  intro cl hcl k tm H nx ds r H1 nx1 h
  obtain ⟨v, e, h⟩ := optE_ok h
  rcases asInt_or h with ⟨k1, n, rfl, h⟩ | h
  · exact ⟨_, _, _, _, pure_op hg hk hs (by rw [hc]; simp only [pureA, mkG_ok _ _ _ e]), h⟩
  · exact gen_ok ce h
theorem ext_op_ok {i : Nat} {x : CO} (hc : ce.co = .extract i x) (hk : ce.kd = 0) : FoOK P G rf ce (fun _ => fExt i (mkG x) (mkS ce.dst)) := by
  intro cl hcl k tm H nx ds r H1 nx1 h
  obtain ⟨v, e, h⟩ := optE_ok h
  rcases asTup_or h with ⟨l, rfl, h⟩ | h
  · obtain ⟨u, e2, h⟩ := optE_ok h
    exact ⟨_, _, _, _, pure_op hg hk hs (by rw [hc]; simp only [pureA, mkG_ok _ _ _ e]; exact e2), h⟩
  · exact (no_ok h).elim
theorem not_ok {x : CO} (hc : ce.co = .not x) (hk : ce.kd = 0) : FoOK P G rf ce (fun _ => fNot (mkG x) (mkS ce.dst)) := by
  intro cl hcl k tm H nx ds r H1 nx1 h
  obtain ⟨v, e, h⟩ := optE_ok h
  obtain ⟨t, rfl, h⟩ := asBool_ok _ _ _ _ _ h
  exact ⟨_, _, _, _, pure_op hg hk hs (by rw [hc]; simp only [pureA, mkG_ok _ _ _ e]), h⟩
theorem lenS_ok {x : CO} (hc : ce.co = .len .slice x) (hk : ce.kd = 1) : FoOK P G rf ce (fun _ => fLenS P G ce (mkG x) (mkS ce.dst)) := by
  intro cl hcl k tm H nx ds r H1 nx1 h
  obtain ⟨v, e, h⟩ := optE_ok h
  rcases asSl_or h with ⟨a, b, n, q, rfl, h⟩ | h
  · exact ⟨_, _, _, _, read_op hg hk hs (by rw [hc]; simp only [readA, mkG_ok _ _ _ e]), h⟩
  · exact gen_ok ce h

theorem alloc_ok {z : AV} {e : Nat} {c : T AV} (hc : ce.co = .alloc z e) (hk : ce.kd = 2) (hr : rowOf z = some c) : FoOK P G rf ce (fun _ => fAlloc c z.len e (mkS ce.dst)) := by
  intro cl hcl k tm H nx ds r H1 nx1 h
  obtain ⟨H', e1, h⟩ := optE_ok h
  refine ⟨(mkS ce.dst).s tm (.ptr nx 0), H', nx + 1, ds, ⟨0, fun n _ k' => ?_⟩, h⟩
  rw [opA_new (by rw [hg]; rfl) hk, hc]
  simp only [newA, hr, e1, mkS_ok hs]
omit hs in
theorem store_ok {a x : CO} (hc : ce.co = .store 1 a x) (hk : ce.kd = 3) (hchk : ce.chk = []) (hd : ce.dst = none) : FoOK P G rf ce (fun _ => fStore1 P G ce (mkG a) (mkG x)) := by
  intro cl hcl k tm H nx ds r H1 nx1 h
  obtain ⟨p, e1, h⟩ := optE_ok h
  obtain ⟨v, e2, h⟩ := optE_ok h
  change boE (oneA v) _ _ = _ at h
  cases ho : oneA v with
  | false => rw [ho] at h; exact gen_ok ce h
  | true =>
    rw [ho] at h
    change asPtr p _ _ = _ at h
    rcases asPtr_or h with ⟨id, off, rfl, h⟩ | h
    · change optE (H.get id) _ _ = _ at h
      obtain ⟨o, e3, h⟩ := optE_ok h
      cases o with
      | cells c n sz el =>
        change boE (Nat.ble G id) _ _ = _ at h
        obtain ⟨f1, h⟩ := boE_ok h
        change boE (Nat.ble (Nat.succ off) n) _ _ = _ at h
        obtain ⟨f2, h⟩ := boE_ok h
        change optE (c.put off v) _ _ = _ at h
        obtain ⟨c', f3, h⟩ := optE_ok h
        change optE (H.put id (.cells c' n sz el)) _ _ = _ at h
        obtain ⟨H', f4, h⟩ := optE_ok h
        refine ⟨tm, H', nx, ds, ⟨0, fun m _ k' => ?_⟩, h⟩
        rw [opA_acts' (j := 0) (by rw [hg]; rfl) hk, hc, hd, hchk]
        have hcell : v.cells = .cons v .nil := by cases v <;> first | rfl | (cases ho; done)
        have hw : wrAt G H id off v.cells = some H' := by
          unfold wrAt
          rw [e3, hcell]
          have hl : (AV.cons v .nil).len = 1 := rfl
          have ha : allOne (.cons v .nil) = true := by simp only [allOne, ho, cond_true]
          simp only [hl]
          rw [show Nat.add off 1 = Nat.succ off from rfl, f1, f2, ha]
          simp only [Bool.and_self, cond_true, putCells, f3, f4]
        have hl : v.cells.len = 1 := by rw [hcell]; rfl
        simp only [heavyA, mkG_ok _ _ _ e1, mkG_ok _ _ _ e2, hl]
        rw [show Nat.beq 1 1 = true from rfl, cond_true, hw]
        rfl
      | _ => exact (no_ok h).elim
    · exact (no_ok h).elim

omit hg hs in
theorem opds_app {tm : T AV} : ∀ {xs : List CO} {args : AV}, opds tm xs = some args → args.app .nil = args
  | [], args, h => by cases h; rfl
  | x :: l, args, h => by
    simp only [opds] at h
    split at h
    · split at h
      · rename_i b e; cases h; simp only [AV.app, opds_app e]
      · cases h
    · cases h
theorem callF_ok {f : Nat} {xs : List CO} (hc : ce.co = .call (.val (.c (.fn (.func f) .nil .nil))) xs) (hk : ce.kd = 3) (hchk : ce.chk = []) : FoOK P G rf ce (fCallF f xs (mkS ce.dst)) := by
  intro cl hcl k tm H nx ds r H1 nx1 h
  obtain ⟨args, e, h⟩ := optE_ok h
  obtain ⟨v, H', nx', ⟨n0, q⟩, e1⟩ := hcl _ _ _ _ _ _ _ _ h
  refine ⟨(mkS ce.dst).s tm v, H', nx', ds, ⟨n0, fun n hn k' => ?_⟩, e1⟩
  have hh : heavyA P G ce.co tm H nx = .call f args := by
    rw [hc]
    simp only [heavyA, opd, e, AV.app, opds_app e]
  rw [opA_acts' (j := 0) (by rw [hg]; rfl) hk, hh, hchk]
  simp only [q n hn, mkS_ok hs, chkA, cond_true]
end

theorem nilL_eq {v : AV} (h : nilL v = true) : v = .nil := by cases v <;> first | rfl | (cases h; done)

set_option maxHeartbeats 1000000 in
theorem plain_ok {ce : CE} (hg : ce.guard = none) (hs : (mkS ce.dst).ok = true) (hk : ce.kd = kind ce.co) : FoOK P G rf ce (fPlain P G ce (mkS ce.dst)).run := by
  unfold fPlain
  cases hc : ce.co with
  | mv x => exact mv_ok hg hs hc (by rw [hk, hc]; rfl)
  | pick c a b => exact pick_ok hg hs hc (by rw [hk, hc]; rfl)
  | bin op x y =>
    have hk0 : ce.kd = 0 := by rw [hk, hc]; rfl
    cases op <;> first
      | exact fgen_ok ce
      | exact II_ok (x := x) (y := y) hg hs hk0 (fun tm k1 n m e1 e2 => by rw [hc]; simp only [pureA, e1, e2, binA, kcode_self, cond_true, intOp]; rfl)
  | eq ng k x y =>
    have hk0 : ce.kd = 0 := by rw [hk, hc]; rfl
    show FoOK P G rf ce (fEq P G ce ng k x y (mkS ce.dst)).run
    unfold fEq
    split
    · cases ng with
      | true => exact II_ok (x := x) (y := y) hg hs hk0 (fun tm k1 n m e1 e2 => by rw [hc]; simp only [pureA, e1, e2, eqKA, eqSA, kcode_self, cond_true]; rfl)
      | false => exact II_ok (x := x) (y := y) hg hs hk0 (fun tm k1 n m e1 e2 => by rw [hc]; simp only [pureA, e1, e2, eqKA, eqSA, kcode_self, cond_true]; rfl)
    · exact fgen_ok ce
  | not x => exact not_ok hg hs hc (by rw [hk, hc]; rfl)
  | toInt j x => exact toInt_ok hg hs hc (by rw [hk, hc]; rfl)
  | nilchk x => exact nil_ok hg hs hc (by rw [hk, hc]; rfl)
  | faddr off x => exact faddr_ok hg hs hc (by rw [hk, hc]; rfl)
  | idxS z x i => exact idxS_ok hg hs hc (by rw [hk, hc]; rfl)
  | extract i x => exact ext_op_ok hg hs hc (by rw [hk, hc]; rfl)
  | load x => exact load_ok hg hs hc (by rw [hk, hc]; rfl)
  | len k x =>
    show FoOK P G rf ce (fLen P G ce k x (mkS ce.dst)).run
    unfold fLen
    split
    · exact lenS_ok hg hs hc (by rw [hk, hc]; rfl)
    · exact fgen_ok ce
  | alloc z e =>
    show FoOK P G rf ce (fAl P G ce z e (mkS ce.dst)).run
    unfold fAl
    split
    · rename_i c hr; exact alloc_ok hg hs hc (by rw [hk, hc]; rfl) hr
    · exact fgen_ok ce
  | store n a x =>
    show FoOK P G rf ce (fSt P G ce n a x).run
    unfold fSt
    cases h : (Nat.beq n 1 && ce.chk.isEmpty && !(isSomeN ce.dst)) with
    | false => exact fgen_ok ce
    | true =>
      simp only [Bool.and_eq_true, Bool.not_eq_true'] at h
      obtain ⟨⟨h1, h2⟩, h3⟩ := h
      have e1 := Nat.eq_of_beq_eq_true h1
      subst e1
      have e3 : ce.dst = none := by cases hd : ce.dst with | none => rfl | some d => rw [hd] at h3; cases h3
      exact store_ok hg hc (by rw [hk, hc]; rfl) (List.isEmpty_iff.1 h2) e3
  | call c xs =>
    have hk3 : ce.kd = 3 := by rw [hk, hc]; rfl
    show FoOK P G rf ce (fCa P G ce c xs (mkS ce.dst)).run
    unfold fCa
    cases h : ce.chk.isEmpty with
    | false => exact fcallop_ok ce (by omega)
    | true =>
      simp only [cond_true]
      split
      · rename_i f first cap
        cases h2 : (nilL first && nilL cap) with
        | false => exact fcallop_ok ce (by omega)
        | true =>
          simp only [Bool.and_eq_true] at h2
          have e1 := nilL_eq h2.1
          have e2 := nilL_eq h2.2
          subst e1; subst e2
          exact callF_ok hg hs hc hk3 (List.isEmpty_iff.1 h)
      · exact fcallop_ok ce (by omega)
  | _ => exact fgen_ok ce

theorem opA_ung {ih : Nat → AV → Hp → Nat → VRes} {ce : CE} {k : Kont} {tm : T AV} {H : Hp} {nx : Nat} {ds : DS} (hg : holdsG tm ce.guard = some true) : opA P G ih ce tm H nx ds k = opA P G ih ce.ung tm H nx ds k := by
  unfold opA
  rw [hg]
  rfl
theorem kindK_at (co : COp) : kindK co = kind co := by rw [kindK_eq]
theorem guard_ok {ce : CE} {g : Nat × Bool} (hg : ce.guard = some g) (hs : (mkS ce.dst).ok = true) (hk : ce.kd = kind ce.co) : FoOK P G rf ce (fGuard P G ce (mkG (.t g.1)) g.2 (mkS ce.dst) (fPlain P G ce.ung (mkS ce.dst))) := by
  intro cl hcl k tm H nx ds r H1 nx1 h
  obtain ⟨v, e, h⟩ := optE_ok h
  have e := mkG_ok _ _ _ e
  change tm.get g.1 = some v at e
  change asBool v _ _ = _ at h
  rcases asBool_or h with ⟨b, rfl, h⟩ | h
  · have hh : holdsG tm ce.guard = some (b == g.2) := by rw [hg]; simp only [holdsG, e]
    change boE (sameB g.2 b) _ _ = _ at h
    cases hb : sameB g.2 b with
    | true =>
      rw [hb] at h
      have hh2 : holdsG tm ce.guard = some true := by rw [hh]; cases b <;> cases hw : g.2 <;> rw [hw] at hb <;> first | rfl | cases hb
      obtain ⟨tm', H', nx', ds', ⟨n0, q⟩, e2⟩ := plain_ok (P := P) (G := G) (rf := rf) (ce := ce.ung) rfl hs hk cl hcl k tm H nx ds r H1 nx1 h
      exact ⟨tm', H', nx', ds', ⟨n0, fun n hn k' => by rw [opA_ung hh2]; exact q n hn k'⟩, e2⟩
    | false =>
      rw [hb] at h
      have hh2 : holdsG tm ce.guard = some false := by rw [hh]; cases b <;> cases hw : g.2 <;> rw [hw] at hb <;> first | rfl | cases hb
      refine ⟨(mkS ce.dst).s tm undefA, H, nx, ds, ⟨0, fun n _ k' => ?_⟩, h⟩
      rw [opA_not hh2, mkS_ok hs]
  · exact gen_ok ce h
theorem op_ok (ce : CE) : FoOK P G rf ce (fOp P G ce).run := by
  unfold fOp
  cases hg : ce.guard with
  | some g =>
    show FoOK P G rf ce (Bool.rec (motive := fun _ => Fo) (fSlow P G ce) ⟨fGuard P G ce (mkG (.t g.1)) g.2 (mkS ce.dst) (fPlain P G ce.ung (mkS ce.dst))⟩ (bz (mkS ce.dst).ok (Nat.beq ce.kd (kindK ce.co)) false)).run
    cases h : bz (mkS ce.dst).ok (Nat.beq ce.kd (kindK ce.co)) false with
    | false => exact slow_ok ce
    | true =>
      cases hs : (mkS ce.dst).ok with
      | false => rw [hs] at h; cases h
      | true =>
        rw [hs] at h
        exact guard_ok hg hs (by rw [← kindK_at]; exact Nat.eq_of_beq_eq_true h)
  | none =>
    show FoOK P G rf ce (Bool.rec (motive := fun _ => Fo) (fSlow P G ce) (fPlain P G ce (mkS ce.dst)) (bz (mkS ce.dst).ok (Nat.beq ce.kd (kindK ce.co)) false)).run
    cases h : bz (mkS ce.dst).ok (Nat.beq ce.kd (kindK ce.co)) false with
    | false => exact slow_ok ce
    | true =>
      cases hs : (mkS ce.dst).ok with
      | false => rw [hs] at h; cases h
      | true =>
        rw [hs] at h
        exact plain_ok hg hs (by rw [← kindK_at]; exact Nat.eq_of_beq_eq_true h)

/-- the quick one's calls are sound -/
theorem fast_ok (hev : ∀ n, CallOK P G (fun f args H nx => evCall P G rf n f args H nx)) (m n : Nat) : CallOK P G (fun f args H nx => fcall P G rf m n f args H nx fin) := by
  intro f args H nx v H' nx' h env w xs
  obtain ⟨v0, H0, nx0, ⟨n0, q⟩, e⟩ := fcall_ok (fc_ok op_ok mkG_ok asBool_ok) m n f args H nx fin _ _ _ h
  cases e
  exact hev n0 f args H nx _ _ _ (q n0 (Nat.le_refl _)) env w xs
end Go.Ev

namespace Go.Ev
variable {P : Program} {G rf : Nat}
/-- the law's own function step by step, its calls by the quick one: what is called alike is reckoned once -/
noncomputable def evT (P : Program) (G : Nat) (cf : Nat → AV → Hp → Nat → VRes) (n : Nat) : CC → T AV → Hp → Nat → DS → ER :=
  Nat.rec (motive := fun _ => CC → T AV → Hp → Nat → DS → ER) (fun _ _ _ _ _ => .no) (fun _ ih => stepC P G cf ih) n
noncomputable def topA (P : Program) (G rf m : Nat) (f : Nat) (args : AV) (H : Hp) (nx : Nat) : VRes :=
  callA P G (evT P G (fun f args H nx => fcall P G rf m 1000 f args H nx fin) m) (rdA rf) f args H nx

theorem evT_ok {cf : Nat → AV → Hp → Nat → VRes} (hcf : CallOK P G cf) (hdraw : DrawOK P G cf) : ∀ n, EvOK P G (evT P G cf n) := by
  intro n
  induction n with
  | zero =>
    intro N c env tm H nx ds a w x tm1 H1 nx1 ds1 hst h
    cases h
  | succ n ih => exact stepC_ok ih hcf hdraw

theorem top_ok (hrf : RfOK P rf) (hext : ExtOK P G) (hname : ∀ (f : Nat) (fn : Func), P.funcs[f]? = some fn → fn.body.isSome = true → (fn.name == "runtime.NumGoroutine") = false)
    (hdraw : ∀ ih, CallOK P G ih → DrawOK P G ih) (m : Nat) : CallOK P G (fun f args H nx => topA P G rf m f args H nx) := by
  have h1 := fast_ok (P := P) (G := G) (rf := rf) (fun n => evCall_ok hrf hext hname hdraw n) m 1000
  exact call_ok (n := m) hrf hext hname (evT_ok h1 (hdraw _ h1) m)
end Go.Ev
