/- An evaluator of the model, and why what it tells is so (part 2). No condition. -/
import Derived.Test.YtekecchdjkkoeaaGreatDoorEv1
import Derived.BigFrame
import Derived.Laws.BytesString
set_option linter.unusedVariables false
set_option linter.unusedSimpArgs false
namespace Go.Ev
variable {P : Program} {G : Nat} {env : Env} {tm : T AV} {a : Act}

/-- an operation yields a value, whatever the memory -/
def Yld (P : Program) (a : Act) (env : Env) (o : Oper) (v : AV) : Prop := ∀ w, ∃ c, (execOp a.eval o).run P w = .ok (.value c) w ∧ VR env v c

theorem yld_of {o : Oper} {v : AV} {s : World → Sem Value} (h : ∀ w, (execOp a.eval o).run P w = ((s w).run P w).andThen fun c w' => .ok (.value c) w') (hs : ∀ w, ∃ c, (s w).run P w = .ok c w ∧ VR env v c) : Yld P a env o v := by
  intro w
  obtain ⟨c, e, r⟩ := hs w
  exact ⟨c, by rw [h, e]; rfl, r⟩

theorem fieldPlace_run {n b o : Nat} {f : Field} (h : tySize P f.type = some (n + 1)) (w : World) : (fieldPlace ⟨b, o, none⟩ f).run P w = .ok ⟨b, o + f.offset, none⟩ w := by
  have h0 : ¬ (n + 1 = 0) := by omega
  simp only [fieldPlace, Sem.run_bind, sizeOf_run h, Result.andThen_ok, Sem.run_ite, h0, if_false, Sem.run_pure, add_none]

theorem part_run {t off : Nat} {l v : AV} {xs : Array Value} (hl : VL env l xs.toList) (hv : (bif (match tyAgg P t with | some true => true | _ => false) then (match tySize P t with | some n => (match l.part off n with | some m => some (.agg m) | none => none) | none => none) else (match tyAgg P t with | some false => l.nth off | _ => none)) = some v) (w : World) :
    ∃ c, (part t xs off).run P w = .ok c w ∧ VR env v c := by
  cases hg : tyAgg P t with
  | none => rw [hg] at hv; cases hv
  | some g =>
    cases g with
    | false =>
      rw [hg] at hv
      simp only [cond_false] at hv
      obtain ⟨c, hc, r⟩ := hl.nth hv
      have hc' : xs[off]? = some c := by simpa using hc
      exact ⟨c, by simp [part, isAgg_run hg, hc'], r⟩
    | true =>
      rw [hg] at hv
      simp only [cond_true] at hv
      split at hv
      · rename_i n hn
        split at hv
        · rename_i m hm
          cases hv
          obtain ⟨_, r⟩ := hl.part hm
          refine ⟨.agg (xs.extract off (off + n)), by simp [part, isAgg_run hg, sizeOf_run hn], _, rfl, ?_⟩
          have : (xs.extract off (off + n)).toList = (xs.toList.drop off).take n := by simp
          rw [this]; exact r
        · cases hv
      · cases hv

theorem kwrap_rs (m : Nat) (n : Nat) (h : n < 256) : IntKind.i64.wrap (n : Int) = n := kwrap_nat .i64 n (by show n ≤ 9223372036854775807; omega)

set_option maxHeartbeats 4000000 in
theorem yld_move (hg : GL G env) (ht : TR env tm a.tmps) {x : Operand} {o : Oper} (ho : o.op = .move x ∨ o.op = .assign x) {co : COp} (hc : cOp P G o.op = some co) {v : AV} (h : pureA P co tm = some v) : Yld P a env o v := by
  intro w
  rcases ho with ho | ho <;>
  · rw [ho] at hc
    simp only [cOp] at hc
    obtain ⟨y, hy, e⟩ := o1_some hc
    cases e
    exact ⟨a.eval x, by simp [execOp, ho], opd_sound hg ht hy h⟩

theorem yld_pick (hg : GL G env) (ht : TR env tm a.tmps) {x y z : Operand} {o : Oper} (ho : o.op = .pick x y z) {co : COp} (hc : cOp P G o.op = some co) {v : AV} (h : pureA P co tm = some v) : Yld P a env o v := by
  intro w
  rw [ho] at hc
  simp only [cOp] at hc
  obtain ⟨x', hx, e⟩ := o1_some hc
  obtain ⟨y', hy, e⟩ := o1_some e
  obtain ⟨z', hz, e⟩ := o1_some e
  cases e
  simp only [pureA] at h
  split at h
  · rename_i e; have := opd_sound hg ht hx e; simp only [VR] at this; exact ⟨a.eval y, by simp [execOp, ho, this, asBool], opd_sound hg ht hy h⟩
  · rename_i e; have := opd_sound hg ht hx e; simp only [VR] at this; exact ⟨a.eval z, by simp [execOp, ho, this, asBool], opd_sound hg ht hz h⟩
  · cases h

theorem yld_bin (hg : GL G env) (ht : TR env tm a.tmps) {op : BinOp} {t u : Nat} {x y : Operand} {o : Oper} (ho : o.op = .binOp op t x y u) {co : COp} (hc : cOp P G o.op = some co) {v : AV} (h : pureA P co tm = some v) : Yld P a env o v := by
  intro w
  rw [ho] at hc
  simp only [cOp] at hc
  obtain ⟨x', hx, e⟩ := o1_some hc
  obtain ⟨y', hy, e⟩ := o1_some e
  have gen : ∀ (hne : op ≠ .eql) (hnn : op ≠ .neq), co = .bin op x' y' → ∃ c, (execOp a.eval o).run P w = .ok (.value c) w ∧ VR env v c := by
    rintro hne hnn rfl
    simp only [pureA] at h
    split at h
    · rename_i p hp
      split at h
      · rename_i q hq
        have rp := opd_sound hg ht hx hp
        have rq := opd_sound hg ht hy hq
        have hgd : ∀ (s r : Value), (eqGuard op t x y s r).run P w = .ok () w := by intro s r; cases op <;> first | rfl | exact absurd rfl hne | exact absurd rfl hnn
        have fin : (∃ c, (binOp op t (a.eval x) (a.eval y)).run P w = .ok c w ∧ VR env v c) → ∃ c, (execOp a.eval o).run P w = .ok (.value c) w ∧ VR env v c := by
          rintro ⟨c, e, r⟩
          exact ⟨c, by simp [execOp, ho, hgd, e], r⟩
        apply fin
        unfold binA at h
        split at h
        · rename_i k1 n1 k2 n2
          simp only [VR] at rp rq
          rw [rp, rq]
          split at h
          · exact shift_sound h (.inl rfl) t w
          · exact shift_sound h (.inr rfl) t w
          · rename_i hs hr
            cases hk : Nat.beq (kcode k1) (kcode k2) with
            | false => rw [hk] at h; cases h
            | true => rw [hk] at h; cases kcode_inj hk; exact intOp_sound h hs hr t w
        · obtain ⟨s, e1, e2⟩ := rp; obtain ⟨r, e3, e4⟩ := rq
          rw [e1, e3]
          exact strOp_sound h e2 e4 t w
        · obtain ⟨n, e1, hl, hh⟩ := rp
          simp only [VR] at rq
          rw [e1, rq]
          exact rngOp_sound hl hh h t w
        · rename_i k1 m r k2 n
          split at h
          · cases hk : (Nat.beq m (n + 1) && Nat.beq (kcode k1) (kcode k2)) with
            | false => rw [hk] at h; cases h
            | true =>
              rw [hk] at h; cases h
              simp only [Bool.and_eq_true] at hk
              cases Nat.eq_of_beq_eq_true hk.1
              cases kcode_inj hk.2
              obtain ⟨z, e1, e2, e3⟩ := rp
              simp only [VR] at rq
              rw [e1, rq]
              refine ⟨.int k1 (Int.tmod (z : Int) ((n + 1 : Nat) : Int)), ?_, ?_⟩
              · have h0 : ¬ (Int.ofNat (n + 1) = 0) := by simp; omega
                simp only [binOp, Op.intDiv, ne_eq, not_true_eq_false, if_false, h0, Sem.run_pure]
                rfl
              · simp only [VR]; rw [← e2]; rfl
          · cases h
        · cases h
      · cases h
    · cases h
  cases op
  case eql =>
    obtain ⟨k, hk, e⟩ := o1_some e
    cases e
    simp only [pureA] at h
    split at h
    · rename_i p hp
      split at h
      · rename_i q hq
        split at h
        · rename_i r hr
          cases h
          obtain ⟨e1, e2, _⟩ := eqK_sound hk hr (opd_sound hg ht hx hp) (opd_sound hg ht hy hq) w .eql
          exact ⟨.bool r, by simp [execOp, ho, e1, e2], rfl⟩
        · cases h
      · cases h
    · cases h
  case neq =>
    obtain ⟨k, hk, e⟩ := o1_some e
    cases e
    simp only [pureA] at h
    split at h
    · rename_i p hp
      split at h
      · rename_i q hq
        split at h
        · rename_i r hr
          cases h
          obtain ⟨e1, _, e2⟩ := eqK_sound hk hr (opd_sound hg ht hx hp) (opd_sound hg ht hy hq) w .neq
          exact ⟨.bool (!r), by simp [execOp, ho, e1, e2], rfl⟩
        · cases h
      · cases h
    · cases h
  all_goals exact gen (by intro e; cases e) (by intro e; cases e) (Option.some.inj e).symm

theorem yld_un (hg : GL G env) (ht : TR env tm a.tmps) {op : UnOp} {t : Nat} {x : Operand} {o : Oper} (ho : o.op = .unOp op t x) {co : COp} (hc : cOp P G o.op = some co) {v : AV} (h : pureA P co tm = some v) : Yld P a env o v := by
  intro w
  rw [ho] at hc
  simp only [cOp] at hc
  obtain ⟨x', hx, e⟩ := o1_some hc
  cases op <;> simp only [] at e <;> first | (cases e; done) | (cases e; simp only [pureA] at h)
  · split at h
    · rename_i k n e
      cases h
      have r := opd_sound hg ht hx e
      simp only [VR] at r
      exact ⟨.int k (k.wrap (0 - n)), by simp [execOp, ho, r, Op.unary, Op.intArith], by simp [VR, wrapF_eq, ineg_eq]⟩
    · cases h
  · split at h
    · rename_i b e
      cases h
      have r := opd_sound hg ht hx e
      simp only [VR] at r
      exact ⟨.bool (!b), by simp [execOp, ho, r, Op.unary], rfl⟩
    · cases h

theorem yld_toInt (hg : GL G env) (ht : TR env tm a.tmps) {s d : Nat} {k : IntKind} {x : Operand} {x' : CO} {o : Oper} (ho : o.op = .convert s d x) (hx : opdOf G x = some x') (hs : ∃ j, P.underlying s = some (.int j)) (hd : P.underlying d = some (.int k)) {v : AV} (h : pureA P (.toInt k x') tm = some v) : Yld P a env o v := by
  intro w
  obtain ⟨j, hs⟩ := hs
  simp only [pureA] at h
  split at h
  · rename_i q n e
    cases h
    have r := opd_sound hg ht hx e
    simp only [VR] at r
    exact ⟨.int k (k.wrap n), by simp [execOp, ho, r, convert, underlying_run hs, underlying_run hd, Conv.intToInt], by simp [VR, wrapF_eq]⟩
  · rename_i q m z e
    split at h
    · cases h
      obtain ⟨n, r1, r2, r3⟩ := opd_sound hg ht hx e
      refine ⟨.int .i64 n, ?_, n, rfl, r2, r3⟩
      simp only [execOp, ho, r1, convert, Sem.run_bind, underlying_run hs, underlying_run hd, Conv.intToInt, Result.andThen_ok, Sem.run_pure, kwrap_rs m n r3]
    · cases h
  · cases h

theorem yld_nilchk (hg : GL G env) (ht : TR env tm a.tmps) {x : Operand} {o : Oper} (ho : o.op = .nilCheck x) {co : COp} (hc : cOp P G o.op = some co) {v : AV} (h : pureA P co tm = some v) : Yld P a env o v := by
  intro w
  rw [ho] at hc
  simp only [cOp] at hc
  obtain ⟨x', hx, e⟩ := o1_some hc
  cases e
  simp only [pureA] at h
  split at h
  · rename_i e; cases h
    have r := opd_sound hg ht hx e
    obtain ⟨L, r1, r2⟩ := r
    exact ⟨_, by simp only [execOp, ho, r2]; rfl, L, r1, rfl⟩
  · rename_i e; cases h
    have r := opd_sound hg ht hx e
    obtain ⟨p, q, r2, r3⟩ := r
    exact ⟨_, by simp only [execOp, ho, r2]; rfl, p, q, rfl, r3⟩
  · rename_i e; cases h
    have r := opd_sound hg ht hx e
    obtain ⟨p, r2, r3⟩ := r
    exact ⟨_, by simp only [execOp, ho, r2]; rfl, p, rfl, r3⟩
  · cases h

theorem yld_iface (hg : GL G env) (ht : TR env tm a.tmps) {t : Nat} {x : Operand} {o : Oper} (ho : o.op = .makeInterface t x) {co : COp} (hc : cOp P G o.op = some co) {v : AV} (h : pureA P co tm = some v) : Yld P a env o v := by
  intro w
  rw [ho] at hc
  simp only [cOp] at hc
  obtain ⟨x', hx, e⟩ := o1_some hc
  have key : co = .iface t x' ∧ ∃ d, P.underlying t = some d ∧ ∀ m, d ≠ .interface m := by
    split at e
    · cases e
    · rename_i d hn hd; cases e; exact ⟨rfl, d, hd, fun m hm => hn m (by rw [← hm])⟩
    · cases e
  obtain ⟨rfl, d, hd, hn⟩ := key
  simp only [pureA] at h
  split at h
  · rename_i y e; cases h
    have r := opd_sound hg ht hx e
    refine ⟨.iface t (a.eval x), ?_, _, rfl, r⟩
    simp only [execOp, ho, Instr.makeInterface, Sem.run_bind, underlying_run hd, Result.andThen_ok]
    cases d <;> first | rfl | exact absurd rfl (hn _)
  · cases h

theorem yld_func (hg : GL G env) (ht : TR env tm a.tmps) {f : Fn} {p q : Array Operand} {o : Oper} (ho : o.op = .makeFunc f p q) {co : COp} (hc : cOp P G o.op = some co) {v : AV} (h : pureA P co tm = some v) : Yld P a env o v := by
  intro w
  rw [ho] at hc
  simp only [cOp] at hc
  obtain ⟨x', hx, e⟩ := o1_some hc
  obtain ⟨y', hy, e⟩ := o1_some e
  cases e
  simp only [pureA] at h
  split at h
  · rename_i e1 e2; cases h
    have r1 := opds_sound hg ht hx e1
    have r2 := opds_sound hg ht hy e2
    refine ⟨.func f (p.map a.eval) (q.map a.eval), by simp [execOp, ho, Instr.makeFunc], _, _, rfl, by simpa using r1, by simpa using r2⟩
  · cases h

theorem yld_faddr (hg : GL G env) (ht : TR env tm a.tmps) {s f : Nat} {x : Operand} {o : Oper} (ho : o.op = .fieldAddr s x f) {co : COp} (hc : cOp P G o.op = some co) {v : AV} (h : pureA P co tm = some v) : Yld P a env o v := by
  intro w
  rw [ho] at hc
  simp only [cOp] at hc
  obtain ⟨⟨ft, off⟩, hf, e⟩ := o1_some hc
  simp only at e
  split at e
  · rename_i n hn
    obtain ⟨x', hx, e⟩ := o1_some e
    cases e
    obtain ⟨fs, fld, u1, u2, rfl, rfl⟩ := field_info hf
    simp only [pureA] at h
    split at h
    · rename_i id p e; cases h
      obtain ⟨L, r1, r2⟩ := opd_sound hg ht hx e
      refine ⟨.pointer (some ⟨L.b, L.base + p + fld.offset, none⟩), ?_, L, r1, by simp [Nat.add_assoc]⟩
      have fp := fieldPlace_run (b := L.b) (o := L.base + p) hn w
      simp [execOp, ho, Instr.fieldAt, underlying_run u1, u2, r2, Instr.sureAddr, fp]
    · cases h
  · cases e

theorem yld_field (hg : GL G env) (ht : TR env tm a.tmps) {t f : Nat} {x : Operand} {o : Oper} (ho : o.op = .field t x f) {co : COp} (hc : cOp P G o.op = some co) {v : AV} (h : pureA P co tm = some v) : Yld P a env o v := by
  intro w
  rw [ho] at hc
  simp only [cOp] at hc
  obtain ⟨⟨ft, off⟩, hf, e⟩ := o1_some hc
  simp only at e
  obtain ⟨x', hx, e⟩ := o1_some e
  obtain ⟨g, hgg, e⟩ := o1_some e
  obtain ⟨fs, fld, u1, u2, rfl, rfl⟩ := field_info hf
  have key : ∃ l xs, a.eval x = .agg xs ∧ VL env l xs.toList ∧ (bif (match tyAgg P fld.type with | some true => true | _ => false) then (match tySize P fld.type with | some n => (match l.part fld.offset n with | some m => some (AV.agg m) | none => none) | none => none) else (match tyAgg P fld.type with | some false => l.nth fld.offset | _ => none)) = some v := by
    rw [hgg]
    cases g with
    | false =>
      cases e
      simp only [pureA] at h
      split at h
      · rename_i l e; obtain ⟨xs, r1, r2⟩ := opd_sound hg ht hx e; exact ⟨l, xs, r1, r2, h⟩
      · cases h
    | true =>
      simp only [cond_true] at e
      obtain ⟨n, hn, e⟩ := o1_some e
      cases e
      simp only [pureA] at h
      split at h
      · rename_i l e; obtain ⟨xs, r1, r2⟩ := opd_sound hg ht hx e; exact ⟨l, xs, r1, r2, by rw [hn]; exact h⟩
      · cases h
  obtain ⟨l, xs, r1, r2, r3⟩ := key
  obtain ⟨c, r4, r5⟩ := part_run r2 r3 w
  exact ⟨c, by simp [execOp, ho, Instr.field, underlying_run u1, u2, r1, asAgg, r4], r5⟩

theorem index_in {i n : Nat} (h : Nat.blt i n = true) : (0 : Int) ≤ (i : Int) ∧ (i : Int) < (n : Int) := by
  have : i < n := by simpa using h
  omega

theorem yld_idxA (hg : GL G env) (ht : TR env tm a.tmps) {t : Nat} {x i : Operand} {o : Oper} (ho : o.op = .indexAddr t x i) {co : COp} (hc : cOp P G o.op = some co) {v : AV} (h : pureA P co tm = some v) : Yld P a env o v := by
  intro w
  rw [ho] at hc
  simp only [cOp] at hc
  obtain ⟨x', hx, e⟩ := o1_some hc
  obtain ⟨i', hi, e⟩ := o1_some e
  split at e
  · rename_i n el hu
    obtain ⟨s, hs, e⟩ := o1_some e
    cases e
    simp only [pureA] at h
    split at h
    · rename_i id p j e1 e2
      cases hb : Nat.blt j n with
      | false => rw [hb] at h; cases h
      | true =>
        rw [hb] at h; cases h
        obtain ⟨L, r1, r2⟩ := opd_sound hg ht hx e1
        obtain ⟨k, r3⟩ := nat_opd hg ht hi e2
        refine ⟨.pointer (some ⟨L.b, L.base + p + j * s, none⟩), ?_, L, r1, by simp [Nat.add_assoc]⟩
        simp only [execOp, ho, Instr.indexAt, r3, asIntOf, Sem.run_bind, Sem.run_pure, Result.andThen_ok, underlying_run hu, r2, Instr.sureAddr, index_in hb, and_self, if_true, sizeOf_run hs, Int.toNat_natCast, add_none]
    · cases h
  · rename_i el hu
    obtain ⟨s, hs, e⟩ := o1_some e
    cases e
    simp only [pureA] at h
    split at h
    · rename_i id p len cp j e1 e2
      cases hb : Nat.blt j len with
      | false => rw [hb] at h; cases h
      | true =>
        rw [hb] at h; cases h
        obtain ⟨L, c, r1, r2, _⟩ := opd_sound hg ht hx e1
        obtain ⟨k, r3⟩ := nat_opd hg ht hi e2
        refine ⟨.pointer (some ⟨L.b, L.base + p + j * s, none⟩), ?_, L, r1, by simp [Nat.add_assoc]⟩
        simp only [execOp, ho, Instr.indexAt, r3, asIntOf, Sem.run_bind, Sem.run_pure, Result.andThen_ok, underlying_run hu, r2, index_in hb, and_self, if_true, sizeOf_run hs, Int.toNat_natCast, add_none]
    · cases h
  · cases e

theorem yld_index (hg : GL G env) (ht : TR env tm a.tmps) {t : Nat} {x i : Operand} {o : Oper} (ho : o.op = .index t x i) {co : COp} (hc : cOp P G o.op = some co) {v : AV} (h : pureA P co tm = some v) : Yld P a env o v := by
  intro w
  rw [ho] at hc
  simp only [cOp] at hc
  obtain ⟨x', hx, e⟩ := o1_some hc
  obtain ⟨i', hi, e⟩ := o1_some e
  split at e
  · rename_i hu
    cases e
    simp only [pureA] at h
    split at h
    · rename_i l j e1 e2
      split at h
      · rename_i c hcj
        cases h
        obtain ⟨s, r1, r2⟩ := opd_sound hg ht hx e1
        obtain ⟨k, r3⟩ := nat_opd hg ht hi e2
        subst r2
        rw [List.getElem?_map, Option.map_eq_some_iff] at hcj
        obtain ⟨u, hu1, hu2⟩ := hcj
        have hs : s[j]? = some u := by
          have : s.data[j]? = some u := by simpa using hu1
          exact this
        refine ⟨.int .u8 u.toNat, ?_, by simp [VR, ← hu2]⟩
        simp only [execOp, ho, Instr.index, r3, asIntOf, Sem.run_bind, Sem.run_pure, Result.andThen_ok, underlying_run hu, r1]
        have h0 : (0 : Int) ≤ (j : Int) := by omega
        simp only [h0, if_true, Int.toNat_natCast, hs, Sem.run_pure, Result.andThen_ok]
      · cases h
    · cases h
  · rename_i n el hu
    obtain ⟨s, hs, e⟩ := o1_some e
    obtain ⟨g, hgg, e⟩ := o1_some e
    have key : ∃ l xs j k, a.eval x = .agg xs ∧ VL env l xs.toList ∧ a.eval i = .int k (j : Nat) ∧ Nat.blt j n = true ∧ (bif (match tyAgg P el with | some true => true | _ => false) then (match tySize P el with | some n => (match l.part (j * s) n with | some m => some (AV.agg m) | none => none) | none => none) else (match tyAgg P el with | some false => l.nth (j * s) | _ => none)) = some v := by
      rw [hgg]
      cases g with
      | false =>
        cases e
        simp only [pureA] at h
        split at h
        · rename_i l j e1 e2
          cases hb : Nat.blt j n with
          | false => rw [hb] at h; cases h
          | true =>
            rw [hb] at h
            obtain ⟨xs, r1, r2⟩ := opd_sound hg ht hx e1
            obtain ⟨k, r3⟩ := nat_opd hg ht hi e2
            exact ⟨l, xs, j, k, r1, r2, r3, hb, h⟩
        · cases h
      | true =>
        cases e
        simp only [pureA] at h
        split at h
        · rename_i l j e1 e2
          cases hb : Nat.blt j n with
          | false => rw [hb] at h; cases h
          | true =>
            rw [hb] at h
            obtain ⟨xs, r1, r2⟩ := opd_sound hg ht hx e1
            obtain ⟨k, r3⟩ := nat_opd hg ht hi e2
            exact ⟨l, xs, j, k, r1, r2, r3, hb, by rw [hs]; exact h⟩
        · cases h
    obtain ⟨l, xs, j, k, r1, r2, r3, hb, r4⟩ := key
    obtain ⟨c, r5, r6⟩ := part_run r2 r4 w
    refine ⟨c, ?_, r6⟩
    simp only [execOp, ho, Instr.index, r3, asIntOf, Sem.run_bind, Sem.run_pure, Result.andThen_ok, underlying_run hu, r1, index_in hb, and_self, if_true, sizeOf_run hs, Int.toNat_natCast, r5]
  · cases e

theorem yld_extract (hg : GL G env) (ht : TR env tm a.tmps) {i : Nat} {x : Operand} {o : Oper} (ho : o.op = .extract x i) {co : COp} (hc : cOp P G o.op = some co) {v : AV} (h : pureA P co tm = some v) : Yld P a env o v := by
  intro w
  rw [ho] at hc
  simp only [cOp] at hc
  obtain ⟨x', hx, e⟩ := o1_some hc
  cases e
  simp only [pureA] at h
  split at h
  · rename_i l e
    obtain ⟨xs, r1, r2⟩ := opd_sound hg ht hx e
    obtain ⟨c, r3, r4⟩ := r2.nth h
    have r3' : xs[i]? = some c := by simpa using r3
    exact ⟨c, by simp [execOp, ho, Instr.extract, r1, r3'], r4⟩
  · cases h

theorem pair_VR {x y : AV} {u v : Value} (hx : VR env x u) (hy : VR env y v) : VR env (pairA x y) (.tuple #[u, v]) := ⟨_, rfl, u, [v], rfl, hx, v, [], rfl, hy, rfl⟩
end Go.Ev

namespace Go.Ev
variable {P : Program} {G : Nat} {env : Env} {tm : T AV} {a : Act}

theorem setL_sound {env : Env} : ∀ {z : AV} {off : Nat} {vs z' : AV} {l m : List Value}, VL env z l → VL env vs m → setL z off vs = some z' →
    off + m.length ≤ l.length ∧ VL env z' (l.take off ++ m ++ l.drop (off + m.length)) := by
  intro z
  induction z with
  | cons h t _ iht =>
    rintro off vs z' l m ⟨x, xs, rfl, hx, hxs⟩ hm e
    cases off with
    | zero =>
      cases vs with
      | nil => cases hm; simp [setL] at e; subst e; exact ⟨by simp, by simpa using ⟨x, xs, rfl, hx, hxs⟩⟩
      | cons v vs =>
        obtain ⟨y, ys, rfl, hy, hys⟩ := hm
        simp only [setL] at e
        split at e
        · rename_i t' et
          cases e
          obtain ⟨h1, h2⟩ := iht hxs hys et
          refine ⟨by simp at h1 ⊢; omega, ⟨y, _, rfl, hy, ?_⟩⟩
          simpa using h2
        · cases e
      | _ => exact hm.elim
    | succ i =>
      have e' : (match setL t i vs with | some t' => some (AV.cons h t') | none => none) = some z' := by
        cases vs <;> exact e
      split at e'
      · rename_i t' et
        cases e'
        obtain ⟨h1, h2⟩ := iht hxs hm et
        have : i + 1 + m.length = (i + m.length) + 1 := by omega
        refine ⟨by simp; omega, ⟨x, xs.take i ++ m ++ xs.drop (i + m.length), by rw [this]; simp, hx, h2⟩⟩
      · cases e'
  | nil =>
    rintro off vs z' l m rfl hm e
    cases off with
    | zero => cases vs with
      | nil => cases hm; simp [setL] at e; subst e; simp [VL]
      | cons v vs => simp [setL] at e
      | _ => exact hm.elim
    | succ i => cases vs <;> simp [setL] at e
  | _ => intro off vs z' l m h; exact h.elim

theorem foldl_splice (off : Nat) : ∀ (vs : List Value) (j : Nat) (cells : Array Value), off + j + vs.length ≤ cells.size →
    ((vs.zipIdx j).foldl (fun (cs : Array Value) (p : Value × Nat) => cs.setIfInBounds (off + p.2) p.1) cells).toList = cells.toList.take (off + j) ++ vs ++ cells.toList.drop (off + j + vs.length)
  | [], j, cells, _ => by simp
  | v :: vs, j, cells, h => by
    simp only [List.zipIdx_cons, List.foldl_cons]
    rw [foldl_splice off vs (j + 1) _ (by simp at h ⊢; omega)]
    simp only [Array.toList_setIfInBounds]
    simp only [List.length_cons] at h
    have hlt : off + j < cells.toList.length := by simp; omega
    have e1 : (cells.toList.set (off + j) v).take (off + (j + 1)) = cells.toList.take (off + j) ++ [v] := by
      rw [show off + (j + 1) = (off + j) + 1 by omega, List.take_add_one]
      simp [List.take_set_of_le, List.getElem?_set_self hlt]
    have e2 : (cells.toList.set (off + j) v).drop (off + (j + 1) + vs.length) = cells.toList.drop (off + j + (vs.length + 1)) := by
      rw [List.drop_set_of_lt (by omega)]
      congr 1; omega
    rw [e1, e2]
    simp

theorem fill_step (off : Nat) (v : Value) (cells : Array Value) (h : off + v.cells.size ≤ cells.size) :
    (v.cells.zipIdx.foldl (fun cs (x : Value × Nat) => match x with | (c, j) => cs.setIfInBounds (off + j) c) cells).toList = cells.toList.take off ++ v.cells.toList ++ cells.toList.drop (off + v.cells.size) := by
  have := foldl_splice off v.cells.toList 0 cells (by simpa using h)
  rw [← Array.foldl_toList, Array.toList_zipIdx]
  simp only [Nat.add_zero, Array.length_toList] at this
  exact this

/-- places and parts of a composite -/
theorem fill_sound (hg : GL G env) (ht : TR env tm a.tmps) (place : Nat → Option (Nat × Nat)) : ∀ {ps : List (Nat × Operand)} {l : List (Nat × Nat × CO)}
    (_ : l.length = ps.length) (_ : ∀ (k i : Nat) (x : Operand), ps[k]? = some (i, x) → ∃ (off s : Nat) (c : CO), l[k]? = some (off, s, c) ∧ place i = some (off, s) ∧ opdOf G x = some c) {z z' : AV} {cells : Array Value}, VL env z cells.toList → fillL tm z l = some z' →
    ∃ cells' : Array Value, Instr.fill place cells (ps.map fun (i, x) => (i, a.eval x)) = some cells' ∧ VL env z' cells'.toList
  | [], l, hl, _, z, z', cells, hz, e => by
    cases l with
    | nil => simp [fillL] at e; subst e; exact ⟨cells, rfl, hz⟩
    | cons x l => simp at hl
  | (i, x) :: ps, l, hl, hp, z, z', cells, hz, e => by
    cases l with
    | nil => simp at hl
    | cons y l =>
      obtain ⟨off, s, c, e1, e2, e3⟩ := hp 0 i x rfl
      simp only [List.getElem?_cons_zero, Option.some.injEq] at e1
      subst e1
      simp only [fillL] at e
      split at e
      · rename_i v hv
        have rv := opd_sound hg ht e3 hv
        have rc := rv.cells
        cases hb : Nat.beq v.cells.len s with
        | false => rw [hb] at e; cases e
        | true =>
          rw [hb] at e
          simp only [cond_true] at e
          split at e
          · rename_i z1 hz1
            have hlen := rc.len
            have hs : (a.eval x).cells.size = s := by have := Nat.eq_of_beq_eq_true hb; simp at hlen; omega
            obtain ⟨b1, b2⟩ := setL_sound hz rc hz1
            simp only [Array.length_toList] at b1 b2
            have fs := fill_step off (a.eval x) cells b1
            obtain ⟨cells', f1, f2⟩ := fill_sound hg ht place (ps := ps) (l := l) (by simpa using hl) (fun k i x hk => hp (k + 1) i x (by simpa using hk)) (cells := (a.eval x).cells.zipIdx.foldl (fun cs (x : Value × Nat) => match x with | (c, j) => cs.setIfInBounds (off + j) c) cells) (by rw [fs]; exact b2) e
            refine ⟨cells', ?_, f2⟩
            simp only [List.map_cons, Instr.fill, e2]
            have hc : ((decide ((a.eval x).cells.size ≠ s) || decide (off + (a.eval x).cells.size > cells.size)) = true) = False := by
              simp [hs]; omega
            simp only [hc, if_false]
            exact f1
          · cases e
      · cases e

theorem sized_mem {l : List Field} (h : sized P l = true) : ∀ f ∈ l, ∃ n, tySize P f.type = some n := by
  induction l with
  | nil => intro f hf; cases hf
  | cons g l ih =>
    simp only [sized] at h
    split at h
    · rename_i n hn
      intro f hf
      rcases List.mem_cons.1 hf with rfl | hf
      · exact ⟨n, hn⟩
      · exact ih h f hf
    · cases h

theorem places_run (w : World) : ∀ {l : List Field}, sized P l = true → (l.mapM (fun f => do pure (f.offset, ← sizeOf f.type) : Field → Sem (Nat × Nat))).run P w = .ok (l.map fun f => (f.offset, (tySize P f.type).getD 0)) w
  | [], _ => by simp
  | f :: l, h => by
    have h1 := sized_mem h f (by simp)
    obtain ⟨n, hn⟩ := h1
    have h2 : sized P l = true := by simp only [sized, hn] at h; exact h
    simp only [List.mapM_cons, Sem.run_bind, sizeOf_run hn, Result.andThen_ok, Sem.run_pure, places_run w h2, List.map_cons, hn, Option.getD_some]

theorem partsS_spec {t : Nat} {fs : Array Field} (hu : P.underlying t = some (.struct fs)) : ∀ {ps : List (Nat × Operand)} {l : List (Nat × Nat × CO)}, partsS P G t ps = some l →
    l.length = ps.length ∧ ∀ (k i : Nat) (x : Operand), ps[k]? = some (i, x) → ∃ (off s : Nat) (c : CO), l[k]? = some (off, s, c) ∧ ((fs.toList.map fun f => (f.offset, (tySize P f.type).getD 0))[i]? = some (off, s)) ∧ opdOf G x = some c
  | [], l, h => by simp [partsS] at h; subst h; exact ⟨rfl, fun k i x hk => by simp at hk⟩
  | (i, x) :: ps, l, h => by
    simp only [partsS] at h
    split at h
    · rename_i ft off hf
      split at h
      · rename_i s c m hs hc hm
        cases h
        obtain ⟨h1, h2⟩ := partsS_spec hu hm
        obtain ⟨fs', fld, u1, u2, rfl, rfl⟩ := field_info hf
        rw [hu] at u1; cases u1
        refine ⟨by simp [h1], fun k j y hk => ?_⟩
        cases k with
        | zero =>
          simp only [List.getElem?_cons_zero, Option.some.injEq, Prod.mk.injEq] at hk
          obtain ⟨rfl, rfl⟩ := hk
          have u2' : fs.toList[i]? = some fld := by simpa using u2
          exact ⟨_, _, _, rfl, by rw [List.getElem?_map, u2']; simp [hs], hc⟩
        | succ k => simpa using h2 k j y (by simpa using hk)
      · cases h
    · cases h

theorem partsA_spec {s : Nat} : ∀ {ps : List (Nat × Operand)} {l : List (Nat × Nat × CO)}, partsA G s ps = some l →
    l.length = ps.length ∧ ∀ (k i : Nat) (x : Operand), ps[k]? = some (i, x) → ∃ (off s' : Nat) (c : CO), l[k]? = some (off, s', c) ∧ some (i * s, s) = some (off, s') ∧ opdOf G x = some c
  | [], l, h => by simp [partsA] at h; subst h; exact ⟨rfl, fun k i x hk => by simp at hk⟩
  | (i, x) :: ps, l, h => by
    simp only [partsA] at h
    split at h
    · rename_i c m hc hm
      cases h
      obtain ⟨h1, h2⟩ := partsA_spec hm
      refine ⟨by simp [h1], fun k j y hk => ?_⟩
      cases k with
      | zero =>
        simp only [List.getElem?_cons_zero, Option.some.injEq, Prod.mk.injEq] at hk
        obtain ⟨rfl, rfl⟩ := hk
        exact ⟨_, _, _, rfl, rfl, hc⟩
      | succ k => simpa using h2 k j y (by simpa using hk)
    · cases h

theorem yld_build (hg : GL G env) (ht : TR env tm a.tmps) {t : Nat} {ps : Array (Nat × Operand)} {o : Oper} (ho : o.op = .build t ps) {co : COp} (hc : cOp P G o.op = some co) {v : AV} (h : pureA P co tm = some v) : Yld P a env o v := by
  intro w
  rw [ho] at hc
  simp only [cOp] at hc
  split at hc
  · rename_i z fs hz hu
    cases hsz : sized P fs.toList with
    | false => rw [hsz] at hc; cases hc
    | true =>
      rw [hsz] at hc
      obtain ⟨l, hl, e⟩ := o1_some hc
      cases e
      simp only [pureA] at h
      split at h
      · rename_i m hm
        cases h
        obtain ⟨zv, z1, z2⟩ := zeroC_run hz w
        obtain ⟨p1, p2⟩ := partsS_spec hu hl
        obtain ⟨cells, f1, f2⟩ := fill_sound hg ht (fun i => (fs.toList.map fun f => (f.offset, (tySize P f.type).getD 0))[i]?) p1 p2 (z2 env) hm
        refine ⟨.agg cells, ?_, _, rfl, f2⟩
        have hpl : (fs.mapM (fun f => do pure (f.offset, ← sizeOf f.type) : Field → Sem (Nat × Nat))).run P w = .ok (fs.toList.map fun f => (f.offset, (tySize P f.type).getD 0)).toArray w := by
          rw [Array.mapM_eq_mapM_toList]
          simp only [Sem.run_map, places_run w hsz, Result.andThen_ok]
        simp only [execOp, ho, Instr.build, Sem.run_bind, z1, Result.andThen_ok, underlying_run hu, hpl, Sem.run_pure]
        have e2 : (Array.map (fun x => (x.1, a.eval x.2)) ps).toList = ps.toList.map fun (i, x) => (i, a.eval x) := by simp
        simp only [e2]
        have f1' : Instr.fill (fun x => (fs.toList.map fun f => (f.offset, (tySize P f.type).getD 0)).toArray[x]?) zv.cells (ps.toList.map fun (i, x) => (i, a.eval x)) = some cells := by
          rw [← f1]; congr 1; funext i; simp
        rw [f1']
        simp
      · cases h
  · rename_i z n el hz hu
    obtain ⟨s, hs, e⟩ := o1_some hc
    obtain ⟨l, hl, e⟩ := o1_some e
    cases e
    simp only [pureA] at h
    split at h
    · rename_i m hm
      cases h
      obtain ⟨zv, z1, z2⟩ := zeroC_run hz w
      obtain ⟨p1, p2⟩ := partsA_spec hl
      obtain ⟨cells, f1, f2⟩ := fill_sound hg ht (fun i => some (i * s, s)) p1 p2 (z2 env) hm
      refine ⟨.agg cells, ?_, _, rfl, f2⟩
      simp only [execOp, ho, Instr.build, Sem.run_bind, z1, Result.andThen_ok, underlying_run hu, sizeOf_run hs, Sem.run_pure]
      have e2 : (Array.map (fun x => (x.1, a.eval x.2)) ps).toList = ps.toList.map fun (i, x) => (i, a.eval x) := by simp
      simp only [e2]
      rw [f1]
      simp
    · cases h
  · cases hc
end Go.Ev

namespace Go.Ev
variable {P : Program} {G : Nat} {env : Env} {tm : T AV} {a : Act}

theorem conj3 {x y z : Bool} (h : (x && y && z) = true) : x = true ∧ y = true ∧ z = true := by simpa [and_assoc] using h

theorem yld_slStr (hg : GL G env) (ht : TR env tm a.tmps) {t : Nat} {x : Operand} {lo hi : Option Operand} {x' : CO} {lo' hi' : Option CO} {o : Oper} (ho : o.op = .slice t x lo hi none) (hx : opdOf G x = some x') (h1 : opdO G lo = some lo') (h2 : opdO G hi = some hi')
    (hu : P.underlying t = some .string) {v : AV} (h : pureA P (.slStr x' lo' hi') tm = some v) : Yld P a env o v := by
  intro w
  simp only [pureA] at h
  split at h
  · rename_i l e
    split at h
    · rename_i p q e1 e2
      cases hb : (Nat.ble p q && Nat.ble q l.length) with
      | false => rw [hb] at h; cases h
      | true =>
        rw [hb] at h; cases h
        simp only [Bool.and_eq_true, Nat.ble_eq] at hb
        obtain ⟨s, r1, r2⟩ := opd_sound hg ht hx e
        subst r2
        have hl : (s.data.toList.map (·.toNat)).length = s.size := by simp
        rw [hl] at e2 hb
        have sb := sliceBounds_run (P := P) (mx := none) (mx' := none) hg ht false h1 h2 rfl e1 e2 (m := s.size) rfl hb.1 hb.2 (Nat.le_refl _) (.inl rfl) w
        refine ⟨.string (s.extract p q), ?_, _, rfl, ?_⟩
        · have hns : ∀ m e', P.underlying t ≠ some (.array m e') := by rw [hu]; intro m e' h; cases h
          simp only [execOp, ho, Instr.sliceAt, Sem.run_bind, underlying_run hu, Result.andThen_ok, Instr.slice, r1, Option.map_none] at sb ⊢
          simp [sb]
        · have : (s.extract p q).data.toList = (s.data.toList.take q).drop p := by
            simp [List.drop_take]
          rw [this]; simp
    · cases h
  · cases h

theorem yld_slArr (hg : GL G env) (ht : TR env tm a.tmps) {t n el s : Nat} {x : Operand} {lo hi mx : Option Operand} {x' : CO} {lo' hi' mx' : Option CO} {o : Oper} (ho : o.op = .slice t x lo hi mx) (hx : opdOf G x = some x') (h1 : opdO G lo = some lo') (h2 : opdO G hi = some hi') (h3 : opdO G mx = some mx')
    (hu : P.underlying t = some (.array n el) ∨ ∃ ar, P.underlying t = some (.pointer ar) ∧ P.underlying ar = some (.array n el)) (hs : tySize P el = some s) (hmx : mx = none ∨ hi ≠ none) {v : AV} (h : pureA P (.slArr n s x' lo' hi' mx') tm = some v) : Yld P a env o v := by
  intro w
  simp only [pureA] at h
  split at h
  · rename_i id off e
    split at h
    · rename_i p q m e1 e2 e3
      cases hb : (Nat.ble p q && Nat.ble q m && Nat.ble m n) with
      | false => rw [hb] at h; cases h
      | true =>
        rw [hb] at h; cases h
        obtain ⟨b1, b2, b3⟩ := conj3 hb
        simp only [Nat.ble_eq] at b1 b2 b3
        obtain ⟨L, r1, r2⟩ := opd_sound hg ht hx e
        have sb := sliceBounds_run (P := P) hg ht false h1 h2 h3 e1 e2 e3 b1 b2 b3 hmx w
        refine ⟨.slice (some ⟨L.b, L.base + (bif Nat.beq m p then off else Nat.add off (Nat.mul p s)), none⟩) (q - p) (m - p), ?_, L, _, r1, rfl, rfl⟩
        have ea : (if m = p then (⟨L.b, L.base + off, none⟩ : Addr) else (⟨L.b, L.base + off, none⟩ : Addr).add (p * s)) = ⟨L.b, L.base + (bif Nat.beq m p then off else Nat.add off (Nat.mul p s)), none⟩ := by
          by_cases hmp : m = p
          · subst hmp; simp
          · have : Nat.beq m p = false := by cases hq : Nat.beq m p with | false => rfl | true => exact absurd (Nat.eq_of_beq_eq_true hq) hmp
            rw [this, if_neg hmp, add_none]
            show _ = (⟨L.b, L.base + (off + p * s), none⟩ : Addr)
            rw [Nat.add_assoc]
        rcases hu with hu | ⟨ar, hu, hu'⟩
        · simp only [execOp, ho, Instr.sliceAt, Sem.run_bind, underlying_run hu, Result.andThen_ok, r2, Instr.sureAddr, Sem.run_pure, sb, sizeOf_run hs, ea]
        · simp only [execOp, ho, Instr.sliceAt, Instr.slice, Sem.run_bind, underlying_run hu, underlying_run hu', Result.andThen_ok, r2, asAddr, Sem.run_pure, sb, sizeOf_run hs, ea]
    · cases h
  · cases h

theorem yld_asC (hg : GL G env) (ht : TR env tm a.tmps) {t xt : Nat} {ok : Bool} {x : Operand} {x' : CO} {z : Option AV} {o : Oper} (ho : o.op = .typeAssert x xt t ok) (hx : opdOf G x = some x') (hu : ∃ d, P.underlying t = some d ∧ ∀ m, d ≠ .interface m)
    (hz : (ok = true ∧ ∃ y, tyZero P t = some y ∧ z = some y) ∨ (ok = false ∧ z = none)) {v : AV} (h : pureA P (.asC t z x') tm = some v) : Yld P a env o v := by
  intro w
  obtain ⟨d, hd, hn⟩ := hu
  have noI : ∀ {α : Type} (f : Array (String × TypeId) → α) (g : α), (match d with | .interface m => f m | _ => g) = g := by
    intro α f g; cases d <;> first | rfl | exact absurd rfl (hn _)
  simp only [pureA] at h
  split at h
  · rename_i u y e
    obtain ⟨c, r1, r2⟩ := opd_sound hg ht hx e
    cases hb : Nat.beq u t with
    | true =>
      rw [hb] at h
      cases Nat.eq_of_beq_eq_true hb
      simp only [cond_true] at h
      have run : (execOp a.eval o).run P w = .ok (.value (if ok then .tuple #[c, .bool true] else c)) w := by
        simp only [execOp, ho, Instr.typeAssert, Sem.run_bind, underlying_run hd, Result.andThen_ok, r1]
        cases d <;> first | (exact absurd rfl (hn _)) | (simp)
      rcases hz with ⟨rfl, q, hq, rfl⟩ | ⟨rfl, rfl⟩
      · cases h; exact ⟨_, by simpa using run, pair_VR r2 rfl⟩
      · cases h; exact ⟨_, by simpa using run, r2⟩
    | false =>
      rw [hb] at h
      simp only [cond_false] at h
      rcases hz with ⟨rfl, q, hq, rfl⟩ | ⟨rfl, rfl⟩
      · cases h
        obtain ⟨zv, z1, z2⟩ := zero_run hq w
        have hne : ¬ u = t := fun e => by subst e; simp at hb
        refine ⟨.tuple #[zv, .bool false], ?_, pair_VR (z2 env) rfl⟩
        simp only [execOp, ho, Instr.typeAssert, Sem.run_bind, underlying_run hd, Result.andThen_ok, r1]
        cases d <;> first | (exact absurd rfl (hn _)) | (simp [hne, z1])
      · cases h
  · rename_i e
    have r1 := opd_sound hg ht hx e
    simp only [VR] at r1
    rcases hz with ⟨rfl, q, hq, rfl⟩ | ⟨rfl, rfl⟩
    · cases h
      obtain ⟨zv, z1, z2⟩ := zero_run hq w
      refine ⟨.tuple #[zv, .bool false], ?_, pair_VR (z2 env) rfl⟩
      simp only [execOp, ho, Instr.typeAssert, Sem.run_bind, underlying_run hd, Result.andThen_ok, r1]
      cases d <;> first | (exact absurd rfl (hn _)) | (simp [z1])
    · cases h
  · cases h

theorem least_some : ∀ {l : List String}, l ≠ [] → ∃ s, Instr.least l = some s
  | [], h => absurd rfl h
  | s :: r, _ => ⟨_, rfl⟩

theorem missing_spec {want : Array (String × TypeId)} {u : Nat} {b : Bool} (h : missing P want.toList u = some b) : ∃ i, P.info? u = some i ∧ (b = false → Instr.missingMethod want i.methods = none) ∧ (b = true → ∃ m, Instr.missingMethod want i.methods = some m) := by
  unfold missing at h
  split at h
  · rename_i i hi
    have h := Option.some.inj h
    refine ⟨i, hi, ?_, ?_⟩
    · rintro rfl
      have : (want.toList.filter fun (x : String × TypeId) => !i.methods.any fun m => m.name == x.1 && m.sig == x.2) = [] := by
        rw [List.filter_eq_nil_iff]
        intro x hx
        rw [List.any_eq_false] at h
        simpa using h x hx
      simp only [Instr.missingMethod, this]
      rfl
    · rintro rfl
      have hne : ((want.toList.filter fun (x : String × TypeId) => !i.methods.any fun m => m.name == x.1 && m.sig == x.2).map (·.1)) ≠ [] := by
        intro e
        rw [List.map_eq_nil_iff, List.filter_eq_nil_iff] at e
        rw [List.any_eq_true] at h
        obtain ⟨x, hx, hx'⟩ := h
        exact e x hx (by simpa using hx')
      simp only [Instr.missingMethod]
      generalize ((want.toList.filter fun (x : String × TypeId) => !i.methods.any fun m => m.name == x.1 && m.sig == x.2).map (·.1)) = l at hne
      cases hp : l.partition (·.contains '.') with
      | mk un ex =>
        simp only []
        cases hex : ex with
        | cons s r => exact ⟨_, rfl⟩
        | nil =>
          cases hun : un with
          | cons s r => exact ⟨_, rfl⟩
          | nil =>
            exfalso
            have : l = [] := by
              rw [List.partition_eq_filter_filter] at hp
              rw [hex, hun] at hp
              simp only [Prod.mk.injEq] at hp
              obtain ⟨p1, p2⟩ := hp
              cases l with
              | nil => rfl
              | cons s r =>
                rw [List.filter_eq_nil_iff] at p1 p2
                have a1 := p1 s (by simp); have a2 := p2 s (by simp)
                cases hq : s.contains '.' <;> simp_all
            exact hne this
  · cases h

theorem yld_asI (hg : GL G env) (ht : TR env tm a.tmps) {t xt : Nat} {ok : Bool} {x : Operand} {x' : CO} {z : Option AV} {want : Array (String × TypeId)} {o : Oper} (ho : o.op = .typeAssert x xt t ok) (hx : opdOf G x = some x') (hu : P.underlying t = some (.interface want))
    (hz : (ok = true ∧ ∃ y, tyZero P t = some y ∧ z = some y) ∨ (ok = false ∧ z = none)) {v : AV} (h : pureA P (.asI want.toList z x') tm = some v) : Yld P a env o v := by
  intro w
  simp only [pureA] at h
  split at h
  · rename_i u y e
    obtain ⟨c, r1, r2⟩ := opd_sound hg ht hx e
    have rI : VR env (.iface u y) (.iface u c) := ⟨c, rfl, r2⟩
    split at h
    · rename_i hm
      obtain ⟨i, i1, i2, _⟩ := missing_spec hm
      have run : (execOp a.eval o).run P w = .ok (.value (if ok then .tuple #[.iface u c, .bool true] else .iface u c)) w := by
        simp only [execOp, ho, Instr.typeAssert, Sem.run_bind, underlying_run hu, Result.andThen_ok, r1, typeInfo, run_program, i1, Sem.run_pure, i2 rfl]
      rcases hz with ⟨rfl, q, hq, rfl⟩ | ⟨rfl, rfl⟩
      · cases h; exact ⟨_, by simpa using run, pair_VR rI rfl⟩
      · cases h; exact ⟨_, by simpa using run, rI⟩
    · rename_i hm
      obtain ⟨i, i1, _, i2⟩ := missing_spec hm
      obtain ⟨m, i3⟩ := i2 rfl
      rcases hz with ⟨rfl, q, hq, rfl⟩ | ⟨rfl, rfl⟩
      · cases h
        obtain ⟨zv, z1, z2⟩ := zero_run hq w
        refine ⟨.tuple #[zv, .bool false], ?_, pair_VR (z2 env) rfl⟩
        simp only [execOp, ho, Instr.typeAssert, Sem.run_bind, underlying_run hu, Result.andThen_ok, r1, typeInfo, run_program, i1, Sem.run_pure, i3]
        simp [z1]
      · cases h
    · cases h
  · rename_i e
    have r1 := opd_sound hg ht hx e
    simp only [VR] at r1
    rcases hz with ⟨rfl, q, hq, rfl⟩ | ⟨rfl, rfl⟩
    · cases h
      obtain ⟨zv, z1, z2⟩ := zero_run hq w
      refine ⟨.tuple #[zv, .bool false], ?_, pair_VR (z2 env) rfl⟩
      simp only [execOp, ho, Instr.typeAssert, Sem.run_bind, underlying_run hu, Result.andThen_ok, r1]
      simp [z1]
    · cases h
  · cases h
end Go.Ev

namespace Go.Ev
variable {P : Program} {G : Nat} {env : Env} {tm : T AV} {a : Act}

theorem cBuiltin_kind {b : Builtin} {ts : List Nat} {xs : List CO} {co : COp} (h : cBuiltin P b ts xs = some co) : kind co = 1 ∨ kind co = 3 := by
  unfold cBuiltin at h
  repeat' (split at h)
  all_goals first
    | (cases h; done)
    | (cases h; first | exact .inl rfl | exact .inr rfl)
    | (obtain ⟨_, _, h⟩ := o1_some h; cases h; first | exact .inl rfl | exact .inr rfl)
    | (simp only [cond_eq_ite] at h; split at h <;> cases h; exact .inr rfl)

set_option maxHeartbeats 4000000 in
theorem pure_sound (hg : GL G env) (ht : TR env tm a.tmps) {o : Oper} {co : COp} (hc : cOp P G o.op = some co) (hk : kind co = 0) {v : AV} (h : pureA P co tm = some v) : Yld P a env o v := by
  cases ho : o.op with
  | move x => exact yld_move hg ht (.inl ho) hc h
  | assign x => exact yld_move hg ht (.inr ho) hc h
  | pick x y z => exact yld_pick hg ht ho hc h
  | binOp op t x y u => exact yld_bin hg ht ho hc h
  | unOp op t x => exact yld_un hg ht ho hc h
  | nilCheck x => exact yld_nilchk hg ht ho hc h
  | makeInterface t x => exact yld_iface hg ht ho hc h
  | makeFunc f p q => exact yld_func hg ht ho hc h
  | fieldAddr s x f => exact yld_faddr hg ht ho hc h
  | field t x f => exact yld_field hg ht ho hc h
  | indexAddr t x i => exact yld_idxA hg ht ho hc h
  | index t x i => exact yld_index hg ht ho hc h
  | build t ps => exact yld_build hg ht ho hc h
  | extract x i => exact yld_extract hg ht ho hc h
  | convert s d x =>
    rw [ho] at hc
    simp only [cOp] at hc
    obtain ⟨x', hx, e⟩ := o1_some hc
    unfold cConvert at e
    split at e
    · rename_i j k hs hd; cases e; exact yld_toInt hg ht ho hx ⟨j, hs⟩ hd h
    · cases e; cases hk
    · cases e; cases hk
    · split at e <;> first | (cases e; cases hk; done) | (cases e; done)
    · split at e <;> first | (cases e; cases hk; done) | (cases e; done)
    · split at e <;> first | (cases e; cases hk; done) | (cases e; done)
    · split at e <;> first | (cases e; cases hk; done) | (cases e; done)
    · cases e
  | slice t x lo hi mx =>
    rw [ho] at hc
    simp only [cOp] at hc
    obtain ⟨x', hx, e⟩ := o1_some hc
    obtain ⟨lo', h1, e⟩ := o1_some e
    obtain ⟨hi', h2, e⟩ := o1_some e
    obtain ⟨mx', h3, e⟩ := o1_some e
    cases hm : (mx'.isSome && !hi'.isSome) with
    | true => rw [hm] at e; cases e
    | false =>
      rw [hm] at e
      simp only [cond_false] at e
      have hmx : mx = none ∨ hi ≠ none := by
        rcases opdO_some h3 with ⟨q, _⟩ | ⟨y, d, q, r, _⟩
        · exact .inl q
        · rcases opdO_some h2 with ⟨q', r'⟩ | ⟨y', d', q', r', _⟩
          · rw [r, r'] at hm; cases hm
          · exact .inr (by rw [q']; intro e; cases e)
      split at e
      · rename_i hu
        cases hms : mx'.isSome with
        | true => rw [hms] at e; cases e
        | false =>
          rw [hms] at e; cases e
          rcases opdO_some h3 with ⟨q, _⟩ | ⟨y, d, q, r, _⟩
          · subst q; exact yld_slStr hg ht ho hx h1 h2 hu h
          · rw [r] at hms; cases hms
      · rename_i el hu
        obtain ⟨s, hs, e⟩ := o1_some e
        cases e; cases hk
      · rename_i n el hu
        obtain ⟨s, hs, e⟩ := o1_some e
        cases e
        exact yld_slArr hg ht ho hx h1 h2 h3 (.inl hu) hs hmx h
      · rename_i ar hu
        obtain ⟨⟨n, el, s⟩, hs, e⟩ := o1_some e
        simp only at e
        cases e
        unfold tyArr at hs
        split at hs
        · rename_i n' e' hu'
          split at hs
          · rename_i s' hs'
            cases hs
            exact yld_slArr hg ht ho hx h1 h2 h3 (.inr ⟨ar, hu, hu'⟩) hs' hmx h
          · cases hs
        · cases hs
      · cases e
  | typeAssert x xt t ok =>
    rw [ho] at hc
    simp only [cOp] at hc
    obtain ⟨x', hx, e⟩ := o1_some hc
    split at e
    · rename_i want hu
      cases ok with
      | true => obtain ⟨z, hz, e⟩ := o1_some e; cases e; exact yld_asI hg ht ho hx hu (.inl ⟨rfl, z, hz, rfl⟩) h
      | false => cases e; exact yld_asI hg ht ho hx hu (.inr ⟨rfl, rfl⟩) h
    · rename_i d hn hu
      have hd : ∃ d, P.underlying t = some d ∧ ∀ m, d ≠ .interface m := ⟨d, hu, fun m hm => hn m (by rw [← hm])⟩
      cases ok with
      | true => obtain ⟨z, hz, e⟩ := o1_some e; cases e; exact yld_asC hg ht ho hx hd (.inl ⟨rfl, z, hz, rfl⟩) h
      | false => cases e; exact yld_asC hg ht ho hx hd (.inr ⟨rfl, rfl⟩) h
    · cases e
  | call c =>
    exfalso
    rw [ho] at hc
    simp only [cOp] at hc
    obtain ⟨xs, _, e⟩ := o1_some hc
    split at e
    · rcases cBuiltin_kind e with q | q <;> rw [hk] at q <;> cases q
    · obtain ⟨f, _, e⟩ := o1_some e; cases e; cases hk
    · obtain ⟨f, _, e⟩ := o1_some e; cases e; cases hk
  | load t x =>
    exfalso
    rw [ho] at hc
    simp only [cOp] at hc
    obtain ⟨x', _, e⟩ := o1_some hc
    obtain ⟨g, _, e⟩ := o1_some e
    cases g
    · cases e; cases hk
    · obtain ⟨n, _, e⟩ := o1_some e; cases e; cases hk
  | lookup t m k ok =>
    exfalso
    rw [ho] at hc
    simp only [cOp] at hc
    split at hc
    · obtain ⟨_, _, e⟩ := o1_some hc
      obtain ⟨_, _, e⟩ := o1_some e
      obtain ⟨_, _, e⟩ := o1_some e
      obtain ⟨_, _, e⟩ := o1_some e
      cases e; cases hk
    · cases hc
  | alloc t =>
    exfalso
    rw [ho] at hc
    simp only [cOp] at hc
    obtain ⟨_, _, e⟩ := o1_some hc
    cases e; cases hk
  | box t x =>
    exfalso
    rw [ho] at hc
    simp only [cOp] at hc
    obtain ⟨_, _, e⟩ := o1_some hc
    cases e; cases hk
  | buildSlice t n ps =>
    exfalso
    rw [ho] at hc
    simp only [cOp] at hc
    obtain ⟨es, _, e⟩ := o1_some hc
    obtain ⟨z, _, e⟩ := o1_some e
    obtain ⟨l, _, e⟩ := o1_some e
    cases hb : (Nat.beq z.len es.2 && Nat.ble (Nat.mul n es.2) 100000 && Nat.blt 0 es.2) <;> rw [hb] at e <;> cases e
    cases hk
  | makeMap t r =>
    exfalso
    rw [ho] at hc
    simp only [cOp] at hc
    split at hc
    · cases hc; cases hk
    · split at hc
      · cases hc; cases hk
      · cases hc
    · cases hc
  | makeSlice t l c =>
    exfalso
    rw [ho] at hc
    simp only [cOp] at hc
    obtain ⟨es, _, e⟩ := o1_some hc
    obtain ⟨z, _, e⟩ := o1_some e
    obtain ⟨l, _, e⟩ := o1_some e
    obtain ⟨l, _, e⟩ := o1_some e
    cases hb : (Nat.beq z.len es.2 && smallBytes P es.1 && Nat.blt 0 es.2) <;> rw [hb] at e <;> cases e
    cases hk
  | store t x y =>
    exfalso
    rw [ho] at hc
    simp only [cOp] at hc
    obtain ⟨_, _, e⟩ := o1_some hc
    obtain ⟨_, _, e⟩ := o1_some e
    obtain ⟨_, _, e⟩ := o1_some e
    cases e; cases hk
  | mapUpdate t m k x =>
    exfalso
    rw [ho] at hc
    simp only [cOp] at hc
    obtain ⟨_, _, e⟩ := o1_some hc
    obtain ⟨_, _, e⟩ := o1_some e
    obtain ⟨_, _, e⟩ := o1_some e
    obtain ⟨_, _, e⟩ := o1_some e
    cases e; cases hk
  | insert t m k x =>
    exfalso
    rw [ho] at hc
    simp only [cOp] at hc
    obtain ⟨_, _, e⟩ := o1_some hc
    obtain ⟨_, _, e⟩ := o1_some e
    obtain ⟨_, _, e⟩ := o1_some e
    obtain ⟨_, _, e⟩ := o1_some e
    cases e; cases hk
  | range t x =>
    exfalso
    rw [ho] at hc
    simp only [cOp] at hc
    obtain ⟨_, _, e⟩ := o1_some hc
    split at e
    · cases e; cases hk
    · cases e; cases hk
    · cases e
  | next x s =>
    exfalso
    rw [ho] at hc
    simp only [cOp] at hc
    obtain ⟨_, _, e⟩ := o1_some hc
    cases e; cases hk
  | defer c =>
    exfalso
    rw [ho] at hc
    simp only [cOp] at hc
    obtain ⟨_, _, e⟩ := o1_some hc
    split at e
    · obtain ⟨_, _, e⟩ := o1_some e; cases e; cases hk
    · cases e
  | _ =>
    exfalso
    rw [ho] at hc
    simp only [cOp] at hc
    cases hc
end Go.Ev

namespace Go.Ev
variable {P : Program} {G : Nat} {env : Env} {tm : T AV} {a : Act} {H : Hp} {nx : Nat} {w : World}

/-- an operation yields a value at this memory, and leaves it -/
def YldR (P : Program) (a : Act) (env : Env) (o : Oper) (v : AV) (w : World) : Prop := ∃ c, (execOp a.eval o).run P w = .ok (.value c) w ∧ VR env v c

theorem cell_at {b off : Nat} {arr : Array Value} {e : Nat} {fr : Nat × Nat} (h : w.heap[b]? = some (.cells arr e fr)) : w.cell? ⟨b, off, none⟩ = arr[off]? := by simp [World.cell?, h]

theorem load_run {b off : Nat} {arr : Array Value} {e : Nat} {fr : Nat × Nat} (h : w.heap[b]? = some (.cells arr e fr)) {x : Value} (hx : arr[off]? = some x) : (load ⟨b, off, none⟩).run P w = .ok x w := by
  simp [cell_at h, hx]

theorem loadFrom_run {b off : Nat} {arr : Array Value} {e : Nat} {fr : Nat × Nat} (h : w.heap[b]? = some (.cells arr e fr)) : ∀ (n i : Nat) (acc : Array Value), off + i + n ≤ arr.size →
    (loadCellsFrom ⟨b, off, none⟩ i n acc).run P w = .ok (acc ++ arr.extract (off + i) (off + i + n)) w
  | 0, i, acc, _ => by simp [loadCellsFrom]; omega
  | n + 1, i, acc, hl => by
    have hlt : off + i < arr.size := by omega
    have hx : arr[off + i]? = some arr[off + i] := by simp [hlt]
    simp only [loadCellsFrom, Sem.run_bind, add_none, load_run h hx, Result.andThen_ok]
    rw [loadFrom_run h n (i + 1) _ (by omega)]
    congr 1
    apply Array.ext'
    simp only [Array.toList_append, Array.toList_push, Array.toList_extract, List.append_assoc, List.singleton_append]
    congr 1
    have e1 : (arr.toList.extract (off + i) (off + i + (n + 1))) = arr[off + i] :: arr.toList.extract (off + (i + 1)) (off + (i + 1) + n) := by
      simp only [List.extract_eq_take_drop]
      have : off + i + (n + 1) - (off + i) = n + 1 := by omega
      rw [this, show off + (i + 1) + n - (off + (i + 1)) = n by omega]
      rw [List.drop_eq_getElem_cons (by simpa using hlt)]
      simp [Nat.add_assoc]
    rw [e1]

theorem loadCells_run {b off n : Nat} {arr : Array Value} {e : Nat} {fr : Nat × Nat} (h : w.heap[b]? = some (.cells arr e fr)) (hl : off + n ≤ arr.size) : (loadCells ⟨b, off, none⟩ n).run P w = .ok (arr.extract off (off + n)) w := by
  have := loadFrom_run (P := P) (off := off) h n 0 #[] (by omega)
  simpa [loadCells] using this

theorem getCells_sound {c : T AV} {arr : Array Value} {base m : Nat} (hc : ∀ i v, c.get i = some v → i < m ∧ ∃ x, arr[base + i]? = some x ∧ VR env v x) : ∀ {n off : Nat} {l : AV}, getCells c off n = some l →
    (n = 0 ∨ off + n ≤ m) ∧ (n = 0 ∨ base + off + n ≤ arr.size) ∧ VL env l ((arr.toList.drop (base + off)).take n) := by
  intro n
  induction n with
  | zero => intro off l h; simp [getCells] at h; subst h; simp [VL]
  | succ n ih =>
    intro off l h
    simp only [getCells] at h
    split at h
    · rename_i v hv
      split at h
      · rename_i l' hl
        cases h
        obtain ⟨h1, x, hx, hr⟩ := hc off v hv
        obtain ⟨i1, i2, i3⟩ := ih hl
        obtain ⟨hlt, hxe⟩ := Array.getElem?_eq_some_iff.1 hx
        have hs : Nat.succ off = off + 1 := rfl
        rw [hs] at i1 i2 i3
        refine ⟨.inr (by omega), .inr (by omega), ?_⟩
        refine ⟨x, _, ?_, hr, i3⟩
        rw [List.drop_eq_getElem_cons (by simpa using hlt)]
        simp [hxe, Nat.add_assoc]
      · cases h
    · cases h

/-- a row that the abstract memory has -/
theorem SR.cells (hs : SR env H nx w) {id : Nat} {L : Loc} (he : env id = some L) {c : T AV} {n sz e : Nat} (hq : H.get id = some (.cells c n sz e)) :
    ∃ arr fr, w.heap[L.b]? = some (.cells arr e fr) ∧ L.base + n ≤ arr.size ∧ (sz = 0 → L.base = 0 ∧ n = arr.size) ∧ (sz ≠ 0 → L.sz = sz ∧ L.base + L.lim = arr.size) ∧
      (∀ i v, c.get i = some v → i < n ∧ ∃ x, arr[L.base + i]? = some x ∧ VR env v x) ∧ (∀ k, k < arr.size → ¬ (fr.1 ≤ k ∧ k < fr.2)) := by
  obtain ⟨ob, h1, arr, fr, rfl, h2⟩ := hs.obj id L _ he hq
  exact ⟨arr, fr, h1, h2⟩

theorem rdAt_sound (hs : SR env H nx w) {id off n : Nat} {L : Loc} (he : env id = some L) {l : AV} (h : rdAt H id off n = some l) :
    ∃ c m sz e arr fr, H.get id = some (.cells c m sz e) ∧ w.heap[L.b]? = some (.cells arr e fr) ∧ (n = 0 ∨ L.base + off + n ≤ arr.size) ∧ VL env l ((arr.toList.drop (L.base + off)).take n) ∧ (n = 0 ∨ off + n ≤ m) := by
  unfold rdAt at h
  split at h
  · rename_i c m sz e hq
    obtain ⟨arr, fr, h1, h2, h3, h4, h5, h6⟩ := hs.cells he hq
    obtain ⟨g1, g2, g3⟩ := getCells_sound h5 h
    exact ⟨c, m, sz, e, arr, fr, hq, h1, g2, g3, g1⟩
  · cases h

theorem extract_toList {arr : Array Value} {o n : Nat} : (arr.extract o (o + n)).toList = (arr.toList.drop o).take n := by simp

theorem loadCells_VL (hs : SR env H nx w) {id off n : Nat} {L : Loc} (he : env id = some L) {l : AV} (h : rdAt H id off n = some l) :
    ∃ xs : Array Value, (loadCells ⟨L.b, L.base + off, none⟩ n).run P w = .ok xs w ∧ VL env l xs.toList := by
  obtain ⟨c, m, sz, e, arr, fr, _, h1, h2, h3, _⟩ := rdAt_sound hs he h
  rcases Nat.eq_zero_or_pos n with rfl | hn
  · exact ⟨#[], by simp [loadCells, loadCellsFrom], by simpa using h3⟩
  · have h2 : L.base + off + n ≤ arr.size := by omega
    exact ⟨_, loadCells_run h1 h2, by rw [extract_toList]; exact h3⟩

theorem rd_load (hg : GL G env) (ht : TR env tm a.tmps) (hs : SR env H nx w) {t : Nat} {x : Operand} {o : Oper} (ho : o.op = .load t x) {co : COp} (hc : cOp P G o.op = some co) {v : AV} (h : readA P co tm H = some v) : YldR P a env o v w := by
  rw [ho] at hc
  simp only [cOp] at hc
  obtain ⟨x', hx, e⟩ := o1_some hc
  obtain ⟨g, hgg, e⟩ := o1_some e
  cases g with
  | false =>
    cases e
    simp only [readA] at h
    split at h
    · rename_i id off e
      split at h
      · rename_i c m sz el hq
        obtain ⟨L, r1, r2⟩ := opd_sound hg ht hx e
        obtain ⟨arr, fr, h1, h2, h3, h4, h5, h6⟩ := hs.cells r1 hq
        obtain ⟨_, y, hy, ry⟩ := h5 off v h
        exact ⟨y, by simp only [execOp, ho, Instr.loadAt, Sem.run_bind, r2, Instr.sureAddr, Sem.run_pure, Result.andThen_ok, loadVar, isAgg_run hgg, Bool.false_eq_true, if_false, load_run h1 hy], ry⟩
      · cases h
    · cases h
  | true =>
    simp only [cond_true] at e
    obtain ⟨n, hn, e⟩ := o1_some e
    cases e
    simp only [readA] at h
    split at h
    · rename_i id off e
      split at h
      · rename_i l hl
        cases h
        obtain ⟨L, r1, r2⟩ := opd_sound hg ht hx e
        obtain ⟨xs, h1, h2⟩ := loadCells_VL (P := P) hs r1 hl
        exact ⟨.agg xs, by simp only [execOp, ho, Instr.loadAt, Sem.run_bind, r2, Instr.sureAddr, Sem.run_pure, Result.andThen_ok, loadVar, isAgg_run hgg, if_true, sizeOf_run hn, h1], _, rfl, h2⟩
      · cases h
    · cases h

theorem rd_slice (hg : GL G env) (ht : TR env tm a.tmps) (hs : SR env H nx w) {t el s : Nat} {x : Operand} {lo hi mx : Option Operand} {x' : CO} {lo' hi' mx' : Option CO} {o : Oper} (ho : o.op = .slice t x lo hi mx) (hx : opdOf G x = some x') (h1 : opdO G lo = some lo') (h2 : opdO G hi = some hi') (h3 : opdO G mx = some mx')
    (hu : P.underlying t = some (.slice el)) (hsz : tySize P el = some s) (hmx : mx = none ∨ hi ≠ none) {v : AV} (h : readA P (.slice s x' lo' hi' mx') tm H = some v) : YldR P a env o v w := by
  have run : ∀ {ad : Option Addr} {len cap l q m : Nat}, a.eval x = .slice ad len cap → (Instr.sliceBounds true len cap (lo.map a.eval) (hi.map a.eval) (mx.map a.eval)).run P w = .ok (l, q, m) w →
      (execOp a.eval o).run P w = .ok (.value (.slice (if m = l then ad else ad.map (·.add (l * s))) (q - l) (m - l))) w := by
    intro ad len cap l q m e1 e2
    simp only [execOp, ho, Instr.sliceAt, Instr.slice, Sem.run_bind, underlying_run hu, Result.andThen_ok, e1, e2, sizeOf_run hsz, Sem.run_pure]
  have eqb : ∀ {m p : Nat}, Nat.beq m p = decide (m = p) := by intro m p; rw [Bool.eq_iff_iff]; simp
  have ea : ∀ (L : Loc) (off m p : Nat), (if m = p then some (⟨L.b, L.base + off, none⟩ : Addr) else (some (⟨L.b, L.base + off, none⟩ : Addr)).map (·.add (p * s))) = some ⟨L.b, L.base + (bif Nat.beq m p then off else Nat.add off (Nat.mul p s)), none⟩ := by
    intro L off m p
    rw [eqb]
    by_cases hmp : m = p
    · simp [hmp]
    · simp only [hmp, if_false, Option.map_some, add_none, decide_false, cond_false]
      show some (⟨L.b, L.base + off + p * s, none⟩ : Addr) = some ⟨L.b, L.base + (off + p * s), none⟩
      rw [Nat.add_assoc]
  simp only [readA] at h
  split at h
  · rename_i e
    have r1 := opd_sound hg ht hx e
    simp only [VR] at r1
    split at h
    · rename_i e1 e2 e3
      cases h
      have sb := sliceBounds_run (P := P) hg ht true h1 h2 h3 e1 e2 e3 (Nat.le_refl _) (Nat.le_refl _) (Nat.le_refl _) hmx w
      exact ⟨_, run r1 sb, rfl⟩
    · cases h
  · rename_i e
    obtain ⟨ad, c, r1⟩ := opd_sound hg ht hx e
    split at h
    · rename_i e1 e2
      cases h
      rcases opdO_some h3 with ⟨rfl, _⟩ | ⟨_, _, _, r, _⟩
      · have sb := sliceBounds_run (P := P) (mx := none) (mx' := none) (cap := c) (m := c) hg ht true h1 h2 rfl e1 e2 rfl (Nat.le_refl _) (Nat.zero_le _) (Nat.le_refl _) (.inl rfl) w
        refine ⟨_, run r1 sb, ?_⟩
        split
        · exact ⟨ad, c - 0, rfl⟩
        · exact ⟨ad.add (0 * s), c - 0, rfl⟩
      · cases r
    · cases h
  · rename_i id off len k e
    obtain ⟨L, c, r0, r1, rfl⟩ := opd_sound hg ht hx e
    split at h
    · rename_i p q m e1 e2 e3
      cases hb : (Nat.ble p q && Nat.ble q m && Nat.ble m c) with
      | false => rw [hb] at h; cases h
      | true =>
        rw [hb] at h; cases h
        obtain ⟨b1, b2, b3⟩ := conj3 hb
        simp only [Nat.ble_eq] at b1 b2 b3
        have sb := sliceBounds_run (P := P) hg ht true h1 h2 h3 e1 e2 e3 b1 b2 b3 hmx w
        refine ⟨_, run r1 sb, L, _, r0, by rw [ea L off m p]; rfl, rfl⟩
    · cases h
  · rename_i id off len e
    obtain ⟨L, c, r0, r1, r2⟩ := opd_sound hg ht hx e
    simp only at r2
    split at h
    · rename_i cc n sz ee p q hq e1 e2
      cases hb : (Nat.beq sz s && Nat.ble p q && Nat.blt 0 sz) with
      | false => rw [hb] at h; cases h
      | true =>
        rw [hb] at h
        simp only [cond_true] at h
        obtain ⟨hb1, hb2, hb3⟩ := conj3 hb
        simp only [Nat.ble_eq] at hb2
        have hz : sz ≠ 0 := by have : 0 < sz := by simpa using hb3
                               omega
        have hb1 := Nat.eq_of_beq_eq_true hb1
        subst hb1
        obtain ⟨arr, fr, g1, g2, g3, g4, g5, g6⟩ := hs.cells r0 hq
        have hle : sz ≠ 0 → n ≤ off + c * sz := by
          intro hz
          obtain ⟨q1, q2⟩ := g4 hz
          rw [q1] at r2
          omega
        have hle := hle hz
        have capb : ∀ {k : Nat}, off + k * sz ≤ n → k ≤ c := by
          intro k hk
          rcases Nat.lt_or_ge c k with hlt | hge
          · have : (c + 1) * sz ≤ k * sz := Nat.mul_le_mul_right _ hlt
            rw [Nat.add_mul] at this
            omega
          · exact hge
        obtain ⟨q1, q2⟩ := g4 hz
        split at h
        · rcases opdO_some h3 with ⟨rfl, _⟩ | ⟨_, _, _, r, _⟩
          · cases hc1 : Nat.ble (Nat.add off (Nat.mul q sz)) n with
            | false => rw [hc1] at h; cases h
            | true =>
              rw [hc1] at h
              simp only [cond_true] at h
              have hqc : q ≤ c := capb (Nat.le_of_ble_eq_true hc1)
              have sb := sliceBounds_run (P := P) (mx := none) (mx' := none) (cap := c) (m := c) hg ht true h1 h2 rfl e1 e2 rfl hb2 hqc (Nat.le_refl _) (.inl rfl) w
              have rr := run r1 sb
              cases hp0 : Nat.beq p 0 with
              | true =>
                rw [hp0] at h; cases h
                cases Nat.eq_of_beq_eq_true hp0
                refine ⟨_, rr, L, c, r0, ?_, r2⟩
                split <;> simp [add_none]
              | false =>
                rw [hp0] at h
                simp only [cond_false] at h
                cases hpe : Nat.beq (Nat.add off (Nat.mul p sz)) n with
                | true =>
                  rw [hpe] at h; cases h
                  have hpn : off + p * sz = n := Nat.eq_of_beq_eq_true hpe
                  have hqn : off + q * sz ≤ n := Nat.le_of_ble_eq_true hc1
                  have : q = p := by
                    rcases Nat.lt_or_ge p q with hlt | hge
                    · have : (p + 1) * sz ≤ q * sz := Nat.mul_le_mul_right _ hlt
                      rw [Nat.add_mul] at this
                      have : 0 < sz := Nat.pos_of_ne_zero hz
                      omega
                    · omega
                  subst this
                  refine ⟨_, rr, ?_⟩
                  rw [Nat.sub_self]
                  split
                  · exact ⟨_, _, rfl⟩
                  · exact ⟨_, _, rfl⟩
                | false =>
                  rw [hpe] at h; cases h
                  have hpn : ¬ off + p * sz = n := fun e => by
                    have : Nat.beq (Nat.add off (Nat.mul p sz)) n = true := by subst e; exact Nat.beq_refl _
                    rw [hpe] at this; cases this
                  have hpq : p * sz ≤ q * sz := Nat.mul_le_mul_right _ hb2
                  have hqn : off + q * sz ≤ n := Nat.le_of_ble_eq_true hc1
                  have hpc : ¬ c = p := by
                    rintro rfl
                    omega
                  refine ⟨_, rr, L, c - p, r0, ?_, ?_⟩
                  · rw [if_neg hpc]
                    simp only [Option.map_some, add_none]
                    show Value.slice (some ⟨L.b, L.base + off + p * sz, none⟩) _ _ = Value.slice (some ⟨L.b, L.base + (off + p * sz), none⟩) _ _
                    rw [Nat.add_assoc]; rfl
                  · show (off + p * sz) + (c - p) * L.sz = L.lim
                    have hpc' : p ≤ c := Nat.le_trans hb2 hqc
                    rw [q1] at r2 ⊢
                    rw [Nat.sub_mul]
                    have : p * sz ≤ c * sz := Nat.mul_le_mul_right _ hpc'
                    omega
          · cases r
        · rename_i mm
          split at h
          · rename_i m e3
            cases hc1 : (Nat.ble q m && Nat.ble (Nat.add off (Nat.mul m sz)) n) with
            | false => rw [hc1] at h; cases h
            | true =>
              rw [hc1] at h; cases h
              simp only [Bool.and_eq_true] at hc1
              have hmc : m ≤ c := capb (Nat.le_of_ble_eq_true hc1.2)
              have sb := sliceBounds_run (P := P) (cap := c) (m := m) hg ht true h1 h2 h3 e1 e2 e3 hb2 (Nat.le_of_ble_eq_true hc1.1) hmc hmx w
              exact ⟨_, run r1 sb, L, _, r0, by rw [ea L off m p]; rfl, rfl⟩
          · cases h
    · cases h
  · cases h
end Go.Ev

namespace Go.Ev
variable {P : Program} {G : Nat} {env : Env} {tm : T AV} {a : Act} {H : Hp} {nx : Nat} {w : World}

theorem exec_builtin {o : Oper} {c : Call} {b : Builtin} (ho : o.op = .call c) (hb : c.callee = .builtin b) :
    execOp a.eval o = builtin b c.argTypes o.type (c.args.map fun | .const _ => true | _ => false) (c.args.map a.eval) := by
  obtain ⟨cal, xs, ats⟩ := c
  simp only at hb; subst hb
  obtain ⟨d, op, ty, pos, af, gd⟩ := o
  simp only at ho; subst ho
  rfl

theorem opds1 {l : List Operand} {c : CO} (h : opdsOf G l = some [c]) : ∃ x, l = [x] ∧ opdOf G x = some c := by
  cases l with
  | nil => simp [opdsOf] at h
  | cons x l =>
    simp only [opdsOf] at h
    split at h
    · rename_i p q e1 e2
      cases h
      cases l with
      | nil => exact ⟨x, rfl, e1⟩
      | cons y l => simp only [opdsOf] at e2; split at e2 <;> cases e2
    · cases h
theorem opds2 {l : List Operand} {c d : CO} (h : opdsOf G l = some [c, d]) : ∃ x y, l = [x, y] ∧ opdOf G x = some c ∧ opdOf G y = some d := by
  cases l with
  | nil => simp [opdsOf] at h
  | cons x l =>
    simp only [opdsOf] at h
    split at h
    · rename_i p q e1 e2
      cases h
      obtain ⟨y, rfl, hy⟩ := opds1 e2
      exact ⟨x, y, rfl, e1, hy⟩
    · cases h

theorem exec_b1 {o : Oper} {c : Call} {b : Builtin} {x : Operand} {t : Nat} (ho : o.op = .call c) (hb : c.callee = .builtin b) (hx : c.args.toList = [x]) (ht : c.argTypes.toList = [t]) :
    ∃ cs, execOp a.eval o = builtin b #[t] o.type cs #[a.eval x] := by
  have hargs : c.args = #[x] := by rw [← Array.toList_inj]; exact hx
  have hats : c.argTypes = #[t] := by rw [← Array.toList_inj]; exact ht
  refine ⟨_, by rw [exec_builtin ho hb, hargs, hats]; congr 1; simp⟩
theorem exec_b2 {o : Oper} {c : Call} {b : Builtin} {x y : Operand} {ts : List Nat} (ho : o.op = .call c) (hb : c.callee = .builtin b) (hx : c.args.toList = [x, y]) (ht : c.argTypes.toList = ts) :
    ∃ cs, execOp a.eval o = builtin b ts.toArray o.type cs #[a.eval x, a.eval y] := by
  have hargs : c.args = #[x, y] := by rw [← Array.toList_inj]; exact hx
  have hats : c.argTypes = ts.toArray := by rw [← Array.toList_inj]; exact ht
  refine ⟨_, by rw [exec_builtin ho hb, hargs, hats]; congr 1; simp⟩

theorem MR.len {es : List Ent} : ∀ {l : List MapEntry}, MR env es l → es.length = l.length := by
  induction es with
  | nil => rintro l rfl; rfl
  | cons e es ih => rintro l ⟨m, ms, rfl, _, _, _, h⟩; simp [ih h]

theorem SR.map (hs : SR env H nx w) {id : Nat} {L : Loc} (he : env id = some L) {es : List Ent} {c : Nat} (hq : H.get id = some (.map es c)) :
    ∃ arr, w.heap[L.b]? = some (.map arr c) ∧ MR env es arr.toList := by
  obtain ⟨ob, h1, _, arr, rfl, h2⟩ := hs.obj id L _ he hq
  exact ⟨arr, h1, h2⟩

theorem getObj_map {b c : Nat} {arr : Array MapEntry} (h : w.heap[b]? = some (.map arr c)) : (getObj b).run P w = .ok (.map arr c) w := by
  simp [getObj, Sem.run, h]

theorem str_len {s : ByteArray} {l : List Nat} (h : s.data.toList.map (·.toNat) = l) : l.length = s.size := by subst h; simp


theorem rd_len (hg : GL G env) (ht : TR env tm a.tmps) (hs : SR env H nx w) {c : Call} {t : Nat} {x' : CO} {k : EqS} {o : Oper} (ho : o.op = .call c) (hb : c.callee = .builtin .len) (hx : opdsOf G c.args.toList = some [x']) (hts : c.argTypes.toList = [t])
    (hn : (k = .str ∧ P.underlying t = some .string) ∨ (k = .slice ∧ ∃ e, P.underlying t = some (.slice e)) ∨ (k = .map ∧ ∃ j e, P.underlying t = some (.map j e)))
    {v : AV} (h : readA P (.len k x') tm H = some v) : YldR P a env o v w := by
  obtain ⟨x, hl, hx⟩ := opds1 hx
  obtain ⟨cs, hex⟩ := exec_b1 (a := a) ho hb hl hts
  have fin : ∀ {n : Nat}, (Builtin.len_ #[t] o.type #[a.eval x]).run P w = .ok (goInt n) w → v = .int .i64 (.ofNat n) → YldR P a env o v w := by
    intro n e1 e2
    refine ⟨goInt n, ?_, by subst e2; rfl⟩
    rw [hex]
    show (do pure (Next.value (← Builtin.len_ #[t] o.type #[a.eval x])) : Sem Next).run P w = _
    simp [e1]
  simp only [readA] at h
  rcases hn with ⟨rfl, hu⟩ | ⟨rfl, e, hu⟩ | ⟨rfl, j, e, hu⟩
  · split at h <;> first | (cases ‹EqS.str = EqS.slice›; done) | (cases ‹EqS.str = EqS.map›; done) | (cases ‹EqS.slice = EqS.str›; done) | (cases ‹EqS.slice = EqS.map›; done) | (cases ‹EqS.map = EqS.str›; done) | (cases ‹EqS.map = EqS.slice›; done) | skip
    · obtain ⟨s, r1, r2⟩ := opd_sound hg ht hx ‹_›
      cases h
      exact fin (n := s.size) (by simp [Builtin.len_, underlying_run hu, r1]) (by rw [str_len r2])
    · cases h
  · split at h <;> first | (cases ‹EqS.str = EqS.slice›; done) | (cases ‹EqS.str = EqS.map›; done) | (cases ‹EqS.slice = EqS.str›; done) | (cases ‹EqS.slice = EqS.map›; done) | (cases ‹EqS.map = EqS.str›; done) | (cases ‹EqS.map = EqS.slice›; done) | skip
    · have r := opd_sound hg ht hx ‹_›
      simp only [VR] at r
      cases h
      exact fin (n := 0) (by simp [Builtin.len_, underlying_run hu, r]) rfl
    · obtain ⟨ad, cc, r⟩ := opd_sound hg ht hx ‹_›
      cases h
      exact fin (n := 0) (by simp [Builtin.len_, underlying_run hu, r]) rfl
    · obtain ⟨L, cc, _, r, _⟩ := opd_sound hg ht hx ‹_›
      cases h
      exact fin (by simp [Builtin.len_, underlying_run hu, r]) rfl
    · cases h
  · split at h <;> first | (cases ‹EqS.str = EqS.slice›; done) | (cases ‹EqS.str = EqS.map›; done) | (cases ‹EqS.slice = EqS.str›; done) | (cases ‹EqS.slice = EqS.map›; done) | (cases ‹EqS.map = EqS.str›; done) | (cases ‹EqS.map = EqS.slice›; done) | skip
    · have r := opd_sound hg ht hx ‹_›
      simp only [VR] at r
      cases h
      exact fin (n := 0) (by simp [Builtin.len_, underlying_run hu, r]) rfl
    · obtain ⟨L, r1, r2⟩ := opd_sound hg ht hx ‹_›
      split at h
      · rename_i es cl hq
        cases h
        obtain ⟨arr, g1, g2⟩ := hs.map r1 hq
        exact fin (n := arr.size) (by simp [Builtin.len_, underlying_run hu, r2, getObj_map g1]) (by rw [g2.len]; simp)
      · cases h
    · cases h

theorem rd_lenC {c : Call} {t : Nat} {x' : CO} {n e : Nat} {o : Oper} (ho : o.op = .call c) (hb : c.callee = .builtin .len) (hx : opdsOf G c.args.toList = some [x']) (hts : c.argTypes.toList = [t])
    (hn : P.underlying t = some (.array n e) ∨ ∃ ar, P.underlying t = some (.pointer ar) ∧ P.underlying ar = some (.array n e))
    {v : AV} (h : readA P (.lenC n x') tm H = some v) : YldR P a env o v w := by
  obtain ⟨x, hl, hx⟩ := opds1 hx
  obtain ⟨cs, hex⟩ := exec_b1 (a := a) ho hb hl hts
  simp only [readA] at h
  cases h
  refine ⟨goInt n, ?_, rfl⟩
  rw [hex]
  show (do pure (Next.value (← Builtin.len_ #[t] o.type #[a.eval x])) : Sem Next).run P w = _
  rcases hn with hu | ⟨ar, hu, hu'⟩
  · simp [Builtin.len_, underlying_run hu]
  · simp [Builtin.len_, underlying_run hu, underlying_run hu']

theorem rd_cap (hg : GL G env) (ht : TR env tm a.tmps) (hs : SR env H nx w) {c : Call} {t el : Nat} {x' : CO} {o : Oper} (ho : o.op = .call c) (hb : c.callee = .builtin .cap) (hx : opdsOf G c.args.toList = some [x']) (hts : c.argTypes.toList = [t])
    (hu : P.underlying t = some (.slice el)) {v : AV} (h : readA P (.cap x') tm H = some v) : YldR P a env o v w := by
  obtain ⟨x, hl, hx⟩ := opds1 hx
  obtain ⟨cs, hex⟩ := exec_b1 (a := a) ho hb hl hts
  have fin : ∀ {n : Nat}, (Builtin.cap_ #[t] o.type #[a.eval x]).run P w = .ok (goInt n) w → VR env v (goInt n) → YldR P a env o v w := by
    intro n e1 e2
    refine ⟨goInt n, ?_, e2⟩
    rw [hex]
    show (do pure (Next.value (← Builtin.cap_ #[t] o.type #[a.eval x])) : Sem Next).run P w = _
    simp [e1]
  simp only [readA] at h
  split at h
  · rename_i e
    have r := opd_sound hg ht hx e
    simp only [VR] at r
    cases h
    exact fin (n := 0) (by simp [Builtin.cap_, underlying_run hu, r]) rfl
  · rename_i e
    obtain ⟨L, cc, _, r, rfl⟩ := opd_sound hg ht hx e
    cases h
    exact fin (by simp [Builtin.cap_, underlying_run hu, r]) rfl
  · rename_i id off ln e
    obtain ⟨L, cc, r0, r, r2⟩ := opd_sound hg ht hx e
    simp only at r2
    split at h
    · rename_i cl n sz el hq
      cases hb1 : (Nat.blt off n && Nat.blt 0 sz) with
      | false => rw [hb1] at h; cases h
      | true =>
        rw [hb1] at h; cases h
        simp only [Bool.and_eq_true, Nat.blt_eq] at hb1
        obtain ⟨arr, fr, g1, g2, g3, g4, g5, g6⟩ := hs.cells r0 hq
        obtain ⟨q1, q2⟩ := g4 (by omega)
        refine fin (n := cc) (by simp [Builtin.cap_, underlying_run hu, r]) ⟨cc, rfl, fun l hl => ?_, fun l hl => (by cases hl)⟩
        cases hl
        rcases Nat.eq_zero_or_pos cc with rfl | hp
        · omega
        · omega
    · cases h
  · cases h

/-- what a map's keys are -/
def KeyTy (q : EqS) (d : TypeDesc) : Prop := (q = .bool ∧ d = .bool) ∨ (q = .int ∧ ∃ k, d = .int k) ∨ (q = .str ∧ d = .string)
theorem keyKind_ty {t : Nat} {q : EqS} (h : keyKind P t = some q) : ∃ d, P.underlying t = some d ∧ KeyTy q d := by
  unfold keyKind at h
  split at h
  · rename_i e; cases h; exact ⟨_, e, .inl ⟨rfl, rfl⟩⟩
  · rename_i k e; cases h; exact ⟨_, e, .inr (.inl ⟨rfl, _, rfl⟩)⟩
  · rename_i e; cases h; exact ⟨_, e, .inr (.inr ⟨rfl, rfl⟩)⟩
  · cases h
theorem checkKey_run {t : Nat} {d : TypeDesc} {q : EqS} (hd : P.underlying t = some d) (hq : KeyTy q d) (b : Bool) (n : Nat) (v : Value) (w : World) : (Instr.checkKey b (n + 1) t v).run P w = .ok () w := by
  rcases hq with ⟨_, rfl⟩ | ⟨_, k, rfl⟩ | ⟨_, rfl⟩ <;> simp [Instr.checkKey, underlying_run hd]

theorem byteArray_beq (s u : ByteArray) : (s == u) = natsEq (s.data.toList.map (·.toNat)) (u.data.toList.map (·.toNat)) := by
  rw [natsEq_eq, map_toNat_inj]
  show (s.data == u.data) = _
  rw [Bool.eq_iff_iff]
  simp [← Array.toList_inj]

theorem sameNow_sound {q : EqS} {d : TypeDesc} (hq : KeyTy q d) {x y : AV} {b : Bool} (h : eqSA q x y = some b) {u v : Value} (hx : VR env x u) (hy : VR env y v) : Instr.sameNow d u v = some b := by
  rcases hq with ⟨rfl, rfl⟩ | ⟨rfl, k, rfl⟩ | ⟨rfl, rfl⟩ <;> simp only [eqSA] at h
  · split at h
    · rename_i p q; cases hx; cases hy; cases h; cases p <;> cases q <;> rfl
    · cases h
  · split at h
    · rename_i k1 p k2 q
      cases hx; cases hy
      cases hk : Nat.beq (kcode k1) (kcode k2) with
      | false => rw [hk] at h; cases h
      | true => rw [hk] at h; cases h; cases kcode_inj hk; simp [Instr.sameNow, ieq_eq]
    · obtain ⟨n, rfl, hl, hh⟩ := hx
      rename_i lo hi c
      cases hy
      cases hb : (oge lo c || ole hi c) <;> rw [hb] at h <;> cases h
      have := rng_ne hl hh hb
      simp [Instr.sameNow, this]
    · cases h
  · split at h
    · obtain ⟨s, rfl, rfl⟩ := hx; obtain ⟨u, rfl, rfl⟩ := hy; cases h
      simp [Instr.sameNow, byteArray_beq]
    · cases h

theorem findE_sound {q : EqS} {d : TypeDesc} (hq : KeyTy q d) {k : AV} {kc : Value} (hk : VR env k kc) : ∀ {es : List Ent} {arr : List MapEntry} (i : Nat) {r : Option AV}, MR env es arr → findE q k es = some r →
    (r = none → Instr.findNow d kc arr i = some none) ∧ (∀ v, r = some v → ∃ j c m, Instr.findNow d kc arr i = some (some (i + j, c)) ∧ VR env v c ∧ arr[j]? = some m ∧ m.val = c ∧ Instr.sameNow d kc m.key = some true)
  | [], arr, i, r, hm, h => by
    cases hm; simp [findE] at h; subst h
    exact ⟨fun _ => rfl, fun v hv => by cases hv⟩
  | e :: es, arr, i, r, hm, h => by
    obtain ⟨m, ms, rfl, mk, mv, mb, mr⟩ := hm
    simp only [findE] at h
    split at h
    · rename_i e1
      cases h
      have sn := sameNow_sound hq e1 hk mk
      refine ⟨fun hr => (by cases hr), fun v hv => ?_⟩
      cases hv
      exact ⟨0, m.val, m, by simp [Instr.findNow, sn], mv, rfl, rfl, sn⟩
    · rename_i e1
      have sn := sameNow_sound hq e1 hk mk
      obtain ⟨h1, h2⟩ := findE_sound hq hk (i + 1) mr h
      refine ⟨fun hr => by simp [Instr.findNow, sn, h1 hr], fun v hv => ?_⟩
      obtain ⟨j, c, m', f1, f2, f3, f4, f5⟩ := h2 v hv
      exact ⟨j + 1, c, m', by simp only [Instr.findNow, sn, f1]; congr 3; omega, f2, by simpa using f3, f4, f5⟩
    · cases h

theorem rd_lookup (hg : GL G env) (ht : TR env tm a.tmps) (hs : SR env H nx w) {t kt el : Nat} {q : EqS} {z : AV} {ok : Bool} {m k : Operand} {m' k' : CO} {o : Oper} (ho : o.op = .lookup t m k ok) (hu : P.underlying t = some (.map kt el)) (hq : keyKind P kt = some q) (hz : tyZero P el = some z)
    (hm : opdOf G m = some m') (hk : opdOf G k = some k') {v : AV} (h : readA P (.lookup q z ok m' k') tm H = some v) : YldR P a env o v w := by
  obtain ⟨d, hd, hqd⟩ := keyKind_ty hq
  obtain ⟨zv, z1, z2⟩ := zero_run hz w
  simp only [readA] at h
  split at h
  · rename_i mv kv em ek
    have rm := opd_sound hg ht hm em
    have rk := opd_sound hg ht hk ek
    have fin : ∀ {es : Array MapEntry} {r : Option (Nat × Value)}, ((a.eval m = .map none ∧ es = #[]) ∨ ∃ b cl, a.eval m = .map (some b) ∧ w.heap[b]? = some (.map es cl)) →
        Instr.findNow d (a.eval k) es.toList 0 = some r → ∃ c, (match r with | some (_, x) => c = x | none => c = zv) ∧ (execOp a.eval o).run P w = .ok (.value (if ok then .tuple #[c, .bool r.isSome] else c)) w := by
      intro es r e1 e2
      refine ⟨match r with | some (_, x) => x | none => zv, by cases r <;> simp, ?_⟩
      have cr := checkKey_run hd hqd es.isEmpty 9999 (a.eval k) w
      have fk : (Instr.findKey kt (a.eval k) es.toList).run P w = .ok r w := by
        simp only [Instr.findKey, Sem.run_bind, underlying_run hd, Result.andThen_ok, e2, Sem.run_pure]
      have tl : ∀ (r' : Option (Nat × Value)), r' = r → ((do
          let (v, ok') ← match r' with
            | some (_, v) => pure (v, true)
            | none => pure (← zeroValue el, false)
          pure (if ok then Value.tuple #[v, .bool ok'] else v)) : Sem Value).run P w = .ok (if ok then .tuple #[(match r with | some (_, x) => x | none => zv), .bool r.isSome] else (match r with | some (_, x) => x | none => zv)) w := by
        rintro r' rfl
        cases r' with
        | none => simp [z1]
        | some p => simp
      rcases e1 with ⟨e1, rfl⟩ | ⟨b, cl, e1, e3⟩
      · simp only [execOp, ho, Instr.lookup, Sem.run_bind, underlying_run hu, Result.andThen_ok, e1, Sem.run_pure, cr, fk]
        have := tl r rfl
        simp only [Sem.run_bind] at this
        cases r <;> simp_all
      · simp only [execOp, ho, Instr.lookup, Sem.run_bind, underlying_run hu, Result.andThen_ok, e1, getObj_map e3, Sem.run_pure, cr, fk]
        have := tl r rfl
        simp only [Sem.run_bind] at this
        cases r <;> simp_all
    split at h
    · rename_i hf
      cases h
      split at hf
      · rename_i e; cases hf
      · rename_i id
        split at hf
        · rename_i es cl hH
          simp only [VR] at rm
          obtain ⟨L, r1, r2⟩ := rm
          obtain ⟨arr, g1, g2⟩ := hs.map r1 hH
          obtain ⟨_, f2⟩ := findE_sound hqd rk 0 g2 hf
          obtain ⟨j, c, mm, f3, f4, _⟩ := f2 _ rfl
          obtain ⟨cc, e1, e2⟩ := fin (es := arr) (r := some (0 + j, c)) (.inr ⟨_, _, r2, g1⟩) f3
          simp only at e1
          subst e1
          refine ⟨_, e2, ?_⟩
          cases ok
          · exact f4
          · exact pair_VR f4 rfl
        · cases hf
      · cases hf
    · rename_i hf
      cases h
      split at hf
      · simp only [VR] at rm
        obtain ⟨cc, e1, e2⟩ := fin (es := #[]) (r := none) (.inl ⟨rm, rfl⟩) rfl
        simp only at e1
        subst e1
        refine ⟨_, e2, ?_⟩
        cases ok
        · exact z2 env
        · exact pair_VR (z2 env) rfl
      · rename_i id
        split at hf
        · rename_i es cl hH
          simp only [VR] at rm
          obtain ⟨L, r1, r2⟩ := rm
          obtain ⟨arr, g1, g2⟩ := hs.map r1 hH
          obtain ⟨f2, _⟩ := findE_sound hqd rk 0 g2 hf
          obtain ⟨cc, e1, e2⟩ := fin (es := arr) (r := none) (.inr ⟨_, _, r2, g1⟩) (f2 rfl)
          simp only at e1
          subst e1
          refine ⟨_, e2, ?_⟩
          cases ok
          · exact z2 env
          · exact pair_VR (z2 env) rfl
        · cases hf
      · cases hf
    · cases h
  · cases h
end Go.Ev

namespace Go.Ev
variable {P : Program} {G : Nat} {env : Env} {tm : T AV} {a : Act} {H : Hp} {nx : Nat} {w : World}

theorem natsA_sound : ∀ {l : AV} {ns : List Nat} {xs : List Value}, natsA l = some ns → VL env l xs → xs = (ns.map fun n : Nat => (n : Int)).map (Value.int .u8) ∧ ∀ n ∈ ns, n < 256 := by
  intro l
  induction l with
  | cons h t _ iht =>
    rintro ns xs e ⟨x, ys, rfl, hx, hys⟩
    unfold natsA at e
    split at e
    · cases ‹AV.cons h t = AV.nil›
    · rename_i n t' heq
      cases heq
      cases hb : Nat.blt n 256 with
      | false => rw [hb] at e; cases e
      | true =>
        rw [hb] at e
        simp only [cond_true] at e
        split at e
        · rename_i l hl
          cases e
          obtain ⟨h1, h2⟩ := iht hl hys
          cases hx
          have hb : n < 256 := by simpa using hb
          refine ⟨by rw [h1]; rfl, fun k hk => ?_⟩
          rcases List.mem_cons.1 hk with rfl | hk
          · exact hb
          · exact h2 k hk
        · cases e
    · cases e
  | nil => rintro ns xs e rfl; cases e; exact ⟨rfl, fun n hn => by cases hn⟩
  | _ => intro ns xs e h; exact h.elim

theorem push_bytes : ∀ (ns : List Nat) (s : ByteArray), (∀ n ∈ ns, n < 256) → ((ns.map fun n : Nat => (n : Int)).foldl (fun r n => r.push (UInt8.ofNat n.toNat)) s).data.toList.map (·.toNat) = s.data.toList.map (·.toNat) ++ ns
  | [], s, _ => by simp
  | n :: ns, s, h => by
    simp only [List.map_cons, List.foldl_cons]
    rw [push_bytes ns _ (fun k hk => h k (by simp [hk]))]
    have hn : n % 256 = n := Nat.mod_eq_of_lt (h n (by simp))
    have hd : ∀ (b : UInt8), (s.push b).data.toList = s.data.toList ++ [b] := by intro b; simp [ByteArray.push]
    rw [hd]
    simp [hn]

theorem rd_bytesStr (hg : GL G env) (ht : TR env tm a.tmps) (hs : SR env H nx w) {s d e : Nat} {x : Operand} {x' : CO} {o : Oper} (ho : o.op = .convert s d x) (hx : opdOf G x = some x') (h1 : P.underlying s = some (.slice e)) (h2 : P.underlying e = some (.int .u8)) (h3 : P.underlying d = some .string)
    {v : AV} (h : readA P (.bytesStr x') tm H = some v) : YldR P a env o v w := by
  simp only [readA] at h
  split at h
  · rename_i q
    have r := opd_sound hg ht hx q
    simp only [VR] at r
    cases h
    refine ⟨.string .empty, ?_, _, rfl, rfl⟩
    simp [execOp, ho, r, run_convert_bytes_string w s d e none 0 0 h1 h2 h3, Conv.bytesToString]
  · rename_i id off len cap q
    obtain ⟨L, c, r0, r1, _⟩ := opd_sound hg ht hx q
    split at h
    · rename_i l hl
      split at h
      · rename_i ns hns
        cases h
        obtain ⟨xs, l1, l2⟩ := loadCells_VL (P := P) hs r0 hl
        obtain ⟨n1, n2⟩ := natsA_sound hns l2
        have l1' : (loadCells ⟨L.b, L.base + off, none⟩ len).run P w = .ok ((ns.map fun n : Nat => (n : Int)).map (Value.int .u8)).toArray w := by
          rw [l1, ← n1]
        have key := run_bytesToString (P := P) w ⟨L.b, L.base + off, none⟩ len c _ l1'
        refine ⟨_, ?_, _, rfl, push_bytes ns .empty n2⟩
        simp only [execOp, ho, r1, Sem.run_bind, run_convert_bytes_string w s d e _ len c h1 h2 h3, key, Result.andThen_ok, Sem.run_pure]
      · cases h
    · cases h
  · cases h

theorem rd_toStr (hg : GL G env) (ht : TR env tm a.tmps) {s d : Nat} {x : Operand} {x' : CO} {o : Oper} (ho : o.op = .convert s d x) (hx : opdOf G x = some x') (h1 : ∃ k, P.underlying s = some k) (h3 : P.underlying d = some .string)
    {v : AV} (h : readA P (.toStr x') tm H = some v) : YldR P a env o v w := by
  obtain ⟨k, h1⟩ := h1
  simp only [readA] at h
  split at h
  · rename_i l q
    obtain ⟨u, r1, r2⟩ := opd_sound hg ht hx q
    cases h
    refine ⟨.string u, ?_, _, rfl, r2⟩
    simp only [execOp, ho, r1, convert, Sem.run_bind, underlying_run h1, underlying_run h3, Result.andThen_ok]
    rfl
  · rename_i kk n q
    have r := opd_sound hg ht hx q
    simp only [VR] at r
    cases hb : Nat.blt n 128 with
    | false => rw [hb] at h; cases h
    | true =>
      rw [hb] at h; cases h
      have hn : n < 128 := by simpa using hb
      refine ⟨.string (Utf8.encode (n : Int)), ?_, _, rfl, ?_⟩
      · simp only [execOp, ho, r, convert, Sem.run_bind, underlying_run h1, underlying_run h3, Result.andThen_ok, Conv.intToString]
        rfl
      · have hv : Utf8.valid (n : Int) = true := by simp [Utf8.valid]; omega
        have he : Utf8.encode (n : Int) = ⟨#[UInt8.ofNat n]⟩ := by
          unfold Utf8.encode
          simp only [hv, if_true, Int.toNat_natCast]
          rw [if_pos hn]
        rw [he]
        simp
        omega
  · cases h

theorem rd_toUp (hg : GL G env) (ht : TR env tm a.tmps) (hs : SR env H nx w) {s d t m : Nat} {x : Operand} {x' : CO} {o : Oper} (ho : o.op = .convert s d x) (hx : opdOf G x = some x') (h1 : P.underlying s = some (.pointer t)) (h2 : tySize P t = some (m + 1)) (h3 : P.underlying d = some .unsafePointer)
    {v : AV} (h : readA P (.toUp x') tm H = some v) : YldR P a env o v w := by
  simp only [readA] at h
  split at h
  · rename_i q
    have r := opd_sound hg ht hx q
    simp only [VR] at r
    cases h
    exact ⟨.pointer none, by simp [execOp, ho, r, convert, underlying_run h1, underlying_run h3, Conv.unsafePointer], rfl⟩
  · rename_i id off q
    obtain ⟨L, r0, r1⟩ := opd_sound hg ht hx q
    split at h
    · rename_i c n e hq
      cases hb : Nat.blt off n with
      | false => rw [hb] at h; cases h
      | true =>
        rw [hb] at h; cases h
        have hb : off < n := by simpa using hb
        obtain ⟨arr, fr, g1, g2, g3, g4, g5, g6⟩ := hs.cells r0 hq
        have hsh : w.shape? L.b = some (e, arr.size) := by simp [World.shape?, g1]
        have hoff : ¬ (arr.size ≤ L.base + off) := by omega
        refine ⟨.pointer (some ⟨L.b, L.base + off, none⟩), ?_, L, r0, rfl⟩
        have m0 : ¬ (m + 1 = 0) := by omega
        simp [execOp, ho, r1, convert, underlying_run h1, underlying_run h3, Conv.unsafePointer, Conv.seenAt, viewAt, hsh, cellsIn, hoff, sizeOf_run h2]
    · cases h
  · cases h

theorem sameLayout_self (p : Program) (d t : Nat) : sameLayout p (d + 1) t t = true := by simp [sameLayout]

theorem variablesAt_self {b n e m : Nat} {arr : Array Value} {fr : Nat × Nat} (hb : w.heap[b]? = some (.cells arr e fr)) (hs : tySize P e = some (m + 1)) {off : Nat} (ho : off + n * (m + 1) ≤ arr.size) (hd : off % (m + 1) = 0) : (variablesAt ⟨b, off, none⟩ e n).run P w = .ok true w := by
  have hsh : w.shape? b = some (e, arr.size) := by simp [World.shape?, hb]
  have hc : P.cellsOf e = m + 1 := by
    obtain ⟨i, hi, his⟩ := tySize_info hs
    simp [Program.cellsOf, hi, his]
  have hdep : ∃ k, P.depth = k + 1 := ⟨2 * (P.types.size + Made.depth) + 1, rfl⟩
  obtain ⟨k, hk⟩ := hdep
  have hdiv : off / (m + 1) + n ≤ arr.size / (m + 1) := by
    have h1 : (off + n * (m + 1)) / (m + 1) ≤ arr.size / (m + 1) := Nat.div_le_div_right ho
    rw [Nat.add_mul_div_right _ _ (by omega)] at h1
    exact h1
  have : liesAt P P.depth e (arr.size / P.cellsOf e) off e n = true := by
    rw [hk]
    simp only [liesAt]
    rw [hk]
    simp only [rowAt, hc]
    rw [sameLayout_self]
    simp [hd, hdiv]
  simp only [variablesAt, Sem.run_bind, run_program, Result.andThen_ok, run_shape, hsh, Sem.run_pure, this]

theorem rd_fromUp (hg : GL G env) (ht : TR env tm a.tmps) (hs : SR env H nx w) {s d u m : Nat} {x : Operand} {x' : CO} {o : Oper} (ho : o.op = .convert s d x) (hx : opdOf G x = some x') (h1 : P.underlying s = some .unsafePointer) (h2 : tySize P u = some (m + 1)) (h3 : P.underlying d = some (.pointer u))
    {v : AV} (h : readA P (.fromUp u (m + 1) x') tm H = some v) : YldR P a env o v w := by
  simp only [readA] at h
  split at h
  · rename_i q
    have r := opd_sound hg ht hx q
    simp only [VR] at r
    cases h
    exact ⟨.pointer none, by simp [execOp, ho, r, convert, underlying_run h1, underlying_run h3, Conv.unsafePointer], rfl⟩
  · rename_i id q
    obtain ⟨L, r0, r1⟩ := opd_sound hg ht hx q
    split at h
    · rename_i c n e hq
      cases hb : (Nat.beq e u && Nat.ble (m + 1) n) with
      | false => rw [hb] at h; cases h
      | true =>
        rw [hb] at h; cases h
        simp only [Bool.and_eq_true] at hb
        cases Nat.eq_of_beq_eq_true hb.1
        have hb : m + 1 ≤ n := Nat.le_of_ble_eq_true hb.2
        obtain ⟨arr, fr, g1, g2, g3, g4, g5, g6⟩ := hs.cells r0 hq
        obtain ⟨g7, g8⟩ := g3 rfl
        have hsh : w.shape? L.b = some (u, arr.size) := by simp [World.shape?, g1]
        have r1 : a.eval x = .pointer (some ⟨L.b, 0, none⟩) := by simp [r1, g7]
        have va := variablesAt_self (P := P) (w := w) (b := L.b) (n := 1) (off := 0) g1 h2 (by omega) (by simp)
        refine ⟨.pointer (some ⟨L.b, 0, none⟩), ?_, L, r0, by simp [g7]⟩
        simp [execOp, ho, r1, convert, underlying_run h1, underlying_run h3, Conv.unsafePointer, Conv.seenAt, viewAt, hsh, sizeOf_run h2, va]
    · cases h
  · cases h

theorem sd_nil (ats : Array TypeId) (ty : TypeId) (l c : Nat) : Builtin.unsafeSliceData_ ats ty #[.slice none l c] = pure (.pointer none) := rfl
theorem sd_some (ats : Array TypeId) (ty : TypeId) (a : Addr) (l c : Nat) (h : c ≠ 0) : (Builtin.unsafeSliceData_ ats ty #[.slice (some a) l c]).run P w = .ok (.pointer (some a)) w := by
  have : Builtin.unsafeSliceData_ ats ty #[.slice (some a) l c] = (if c ≠ 0 then pure (.pointer (some a)) else do
      if (← viewAt a.block).isSome then pure (.pointer (some a)) else pure (.pointer (some ⟨← newObj (.view a (← elemOf ty)), 0, none⟩))) := rfl
  rw [this, if_pos h]
  rfl

theorem rd_sdata (hg : GL G env) (ht : TR env tm a.tmps) (hs : SR env H nx w) {c : Call} {x' : CO} {o : Oper} (ho : o.op = .call c) (hb : c.callee = .builtin .unsafeSliceData) (hx : opdsOf G c.args.toList = some [x'])
    {v : AV} (h : readA P (.sdata x') tm H = some v) : YldR P a env o v w := by
  obtain ⟨x, hl, hx⟩ := opds1 hx
  have hargs : c.args = #[x] := by rw [← Array.toList_inj]; exact hl
  have fin : ∀ {r : Value}, (Builtin.unsafeSliceData_ c.argTypes o.type #[a.eval x]).run P w = .ok r w → VR env v r → YldR P a env o v w := by
    intro r e1 e2
    refine ⟨r, ?_, e2⟩
    rw [exec_builtin ho hb, hargs]
    have : Array.map a.eval #[x] = #[a.eval x] := by simp
    rw [this]
    show (do pure (Next.value (← Builtin.unsafeSliceData_ c.argTypes o.type #[a.eval x])) : Sem Next).run P w = _
    simp [e1]
  simp only [readA] at h
  split at h
  · rename_i q
    have r := opd_sound hg ht hx q
    simp only [VR] at r
    cases h
    exact fin (r := .pointer none) (by rw [r, sd_nil]; rfl) rfl
  · rename_i id off ln q
    obtain ⟨L, cc, r0, r1, r2⟩ := opd_sound hg ht hx q
    simp only at r2
    split at h
    · rename_i cl n sz el hq
      cases hb1 : (Nat.blt off n && Nat.blt 0 sz) with
      | false => rw [hb1] at h; cases h
      | true =>
        rw [hb1] at h; cases h
        simp only [Bool.and_eq_true, Nat.blt_eq] at hb1
        obtain ⟨arr, fr, g1, g2, g3, g4, g5, g6⟩ := hs.cells r0 hq
        obtain ⟨q1, q2⟩ := g4 (by omega)
        have hc : ¬ cc = 0 := by rintro rfl; omega
        exact fin (r := .pointer (some ⟨L.b, L.base + off, none⟩)) (by rw [r1]; exact sd_some _ _ _ _ _ hc) ⟨L, r0, rfl⟩
    · cases h
  · rename_i id off ln k q
    obtain ⟨L, cc, r0, r1, rfl⟩ := opd_sound hg ht hx q
    cases h
    exact fin (r := .pointer (some ⟨L.b, L.base + off, none⟩)) (by rw [r1]; exact sd_some _ _ _ _ _ (by omega)) ⟨L, r0, rfl⟩
  · cases h
end Go.Ev

namespace Go.Ev
variable {P : Program} {G : Nat} {env : Env} {tm : T AV} {a : Act} {H : Hp} {nx : Nat} {w : World}

set_option maxHeartbeats 4000000 in
theorem read_sound (hg : GL G env) (ht : TR env tm a.tmps) (hs : SR env H nx w) {o : Oper} {co : COp} (hc : cOp P G o.op = some co) (hk : kind co = 1) {v : AV} (h : readA P co tm H = some v) : YldR P a env o v w := by
  cases ho : o.op with
  | load t x => exact rd_load hg ht hs ho hc h
  | lookup t m k ok =>
    rw [ho] at hc
    simp only [cOp] at hc
    split at hc
    · rename_i kt e hu
      obtain ⟨q, hq, e⟩ := o1_some hc
      obtain ⟨z, hz, e⟩ := o1_some e
      obtain ⟨m', hm, e⟩ := o1_some e
      obtain ⟨k', hk', e⟩ := o1_some e
      cases e
      exact rd_lookup hg ht hs ho hu hq hz hm hk' h
    · cases hc
  | slice t x lo hi mx =>
    rw [ho] at hc
    simp only [cOp] at hc
    obtain ⟨x', hx, e⟩ := o1_some hc
    obtain ⟨lo', h1, e⟩ := o1_some e
    obtain ⟨hi', h2, e⟩ := o1_some e
    obtain ⟨mx', h3, e⟩ := o1_some e
    cases hm : (mx'.isSome && !hi'.isSome) with
    | true => rw [hm] at e; cases e
    | false =>
      rw [hm] at e
      simp only [cond_false] at e
      have hmx : mx = none ∨ hi ≠ none := by
        rcases opdO_some h3 with ⟨q, _⟩ | ⟨y, d, q, r, _⟩
        · exact .inl q
        · rcases opdO_some h2 with ⟨q', r'⟩ | ⟨y', d', q', r', _⟩
          · rw [r, r'] at hm; cases hm
          · exact .inr (by rw [q']; intro e; cases e)
      split at e
      · rename_i hu
        cases hms : mx'.isSome <;> rw [hms] at e <;> cases e
        cases hk
      · rename_i el hu
        obtain ⟨s, hs', e⟩ := o1_some e
        cases e
        exact rd_slice hg ht hs ho hx h1 h2 h3 hu hs' hmx h
      · obtain ⟨s, hs, e⟩ := o1_some e
        cases e; cases hk
      · obtain ⟨q, hs, e⟩ := o1_some e
        cases e; cases hk
      · cases e
  | convert s d x =>
    rw [ho] at hc
    simp only [cOp] at hc
    obtain ⟨x', hx, e⟩ := o1_some hc
    unfold cConvert at e
    split at e
    · cases e; cases hk
    · rename_i hs' hd; cases e; exact rd_toStr hg ht ho hx ⟨_, hs'⟩ hd h
    · rename_i k hs' hd; cases e; exact rd_toStr hg ht ho hx ⟨_, hs'⟩ hd h
    · rename_i el hs' hd
      split at e
      · rename_i he; cases e; exact rd_bytesStr hg ht hs ho hx hs' he hd h
      · cases e
    · split at e
      · cases e; cases hk
      · cases e
    · rename_i t hs' hd
      split at e
      · rename_i n hn; cases e; exact rd_toUp hg ht hs ho hx hs' hn hd h
      · cases e
    · rename_i u hs' hd
      split at e
      · rename_i n hn; cases e; exact rd_fromUp hg ht hs ho hx hs' hn hd h
      · cases e
    · cases e
  | call c =>
    rw [ho] at hc
    simp only [cOp] at hc
    obtain ⟨xs, hx, e⟩ := o1_some hc
    split at e
    · rename_i b hb
      unfold cBuiltin at e
      split at e
      · rename_i t x ht'
        split at e
        · rename_i hu; cases e; exact rd_len hg ht hs ho hb hx ht' (.inl ⟨rfl, hu⟩) h
        · rename_i el hu; cases e; exact rd_len hg ht hs ho hb hx ht' (.inr (.inl ⟨rfl, el, hu⟩)) h
        · rename_i k el hu; cases e; exact rd_len hg ht hs ho hb hx ht' (.inr (.inr ⟨rfl, k, el, hu⟩)) h
        · rename_i n el hu; cases e; exact rd_lenC ho hb hx ht' (.inl hu) h
        · rename_i ar hu
          split at e
          · rename_i n el hu'; cases e; exact rd_lenC ho hb hx ht' (.inr ⟨ar, hu, hu'⟩) h
          · cases e
        · cases e
      · rename_i t x ht'
        split at e
        · rename_i el hu; cases e; exact rd_cap hg ht hs ho hb hx ht' hu h
        · cases e
      · exfalso; split at e
        · cases e
        · split at e
          · simp only [cond_eq_ite] at e; split at e <;> cases e; cases hk
          · cases e
        · cases e
      · exfalso; split at e <;> cases e; cases hk
      · exfalso; cases e; cases hk
      · exfalso; cases e; cases hk
      · exfalso; obtain ⟨_, _, e⟩ := o1_some e; cases e; cases hk
      · rename_i x; cases e; exact rd_sdata hg ht hs ho hb hx h
      · exfalso; split at e
        · split at e <;> cases e; cases hk
        · cases e
      · cases e
    · obtain ⟨f, _, e⟩ := o1_some e; cases e; cases hk
    · obtain ⟨f, _, e⟩ := o1_some e; cases e; cases hk
  | move x => exfalso; rw [ho] at hc; simp only [cOp] at hc; obtain ⟨_, _, e⟩ := o1_some hc; cases e; cases hk
  | assign x => exfalso; rw [ho] at hc; simp only [cOp] at hc; obtain ⟨_, _, e⟩ := o1_some hc; cases e; cases hk
  | pick x y z => exfalso; rw [ho] at hc; simp only [cOp] at hc; obtain ⟨_, _, e⟩ := o1_some hc; obtain ⟨_, _, e⟩ := o1_some e; obtain ⟨_, _, e⟩ := o1_some e; cases e; cases hk
  | alloc t => exfalso; rw [ho] at hc; simp only [cOp] at hc; obtain ⟨_, _, e⟩ := o1_some hc; cases e; cases hk
  | box t x => exfalso; rw [ho] at hc; simp only [cOp] at hc; obtain ⟨_, _, e⟩ := o1_some hc; cases e; cases hk
  | nilCheck t => exfalso; rw [ho] at hc; simp only [cOp] at hc; obtain ⟨_, _, e⟩ := o1_some hc; cases e; cases hk
  | next x s => exfalso; rw [ho] at hc; simp only [cOp] at hc; obtain ⟨_, _, e⟩ := o1_some hc; cases e; cases hk
  | extract x s => exfalso; rw [ho] at hc; simp only [cOp] at hc; obtain ⟨_, _, e⟩ := o1_some hc; cases e; cases hk
  | makeFunc f p q => exfalso; rw [ho] at hc; simp only [cOp] at hc; obtain ⟨_, _, e⟩ := o1_some hc; obtain ⟨_, _, e⟩ := o1_some e; cases e; cases hk
  | store t x y => exfalso; rw [ho] at hc; simp only [cOp] at hc; obtain ⟨_, _, e⟩ := o1_some hc; obtain ⟨_, _, e⟩ := o1_some e; obtain ⟨_, _, e⟩ := o1_some e; cases e; cases hk
  | mapUpdate t m k x => exfalso; rw [ho] at hc; simp only [cOp] at hc; obtain ⟨_, _, e⟩ := o1_some hc; obtain ⟨_, _, e⟩ := o1_some e; obtain ⟨_, _, e⟩ := o1_some e; obtain ⟨_, _, e⟩ := o1_some e; cases e; cases hk
  | insert t m k x => exfalso; rw [ho] at hc; simp only [cOp] at hc; obtain ⟨_, _, e⟩ := o1_some hc; obtain ⟨_, _, e⟩ := o1_some e; obtain ⟨_, _, e⟩ := o1_some e; obtain ⟨_, _, e⟩ := o1_some e; cases e; cases hk
  | makeInterface t x => exfalso; rw [ho] at hc; simp only [cOp] at hc; obtain ⟨_, _, e⟩ := o1_some hc; split at e <;> cases e; cases hk
  | binOp op t x y u =>
    exfalso; rw [ho] at hc; simp only [cOp] at hc; obtain ⟨_, _, e⟩ := o1_some hc; obtain ⟨_, _, e⟩ := o1_some e
    cases op <;> first | (obtain ⟨_, _, e⟩ := o1_some e; cases e; cases hk; done) | (cases e; cases hk; done)
  | unOp op t x => exfalso; rw [ho] at hc; simp only [cOp] at hc; obtain ⟨_, _, e⟩ := o1_some hc; cases op <;> first | (cases e; cases hk; done) | (cases e; done)
  | fieldAddr s x f => exfalso; rw [ho] at hc; simp only [cOp] at hc; obtain ⟨_, _, e⟩ := o1_some hc; split at e; obtain ⟨_, _, e⟩ := o1_some e; cases e; cases hk; cases e
  | field t x f =>
    exfalso; rw [ho] at hc; simp only [cOp] at hc; obtain ⟨_, _, e⟩ := o1_some hc; obtain ⟨_, _, e⟩ := o1_some e; obtain ⟨g, _, e⟩ := o1_some e
    cases g
    · cases e; cases hk
    · obtain ⟨_, _, e⟩ := o1_some e; cases e; cases hk
  | indexAddr t x i =>
    exfalso; rw [ho] at hc; simp only [cOp] at hc; obtain ⟨_, _, e⟩ := o1_some hc; obtain ⟨_, _, e⟩ := o1_some e
    split at e
    · obtain ⟨_, _, e⟩ := o1_some e; cases e; cases hk
    · obtain ⟨_, _, e⟩ := o1_some e; cases e; cases hk
    · cases e
  | index t x i =>
    exfalso; rw [ho] at hc; simp only [cOp] at hc; obtain ⟨_, _, e⟩ := o1_some hc; obtain ⟨_, _, e⟩ := o1_some e
    split at e
    · cases e; cases hk
    · obtain ⟨_, _, e⟩ := o1_some e; obtain ⟨g, _, e⟩ := o1_some e; cases g <;> cases e <;> cases hk
    · cases e
  | build t ps =>
    exfalso; rw [ho] at hc; simp only [cOp] at hc
    split at hc
    · rename_i z fs _ _
      cases hsz : sized P fs.toList <;> rw [hsz] at hc
      · cases hc
      · obtain ⟨_, _, e⟩ := o1_some hc; cases e; cases hk
    · obtain ⟨_, _, e⟩ := o1_some hc; obtain ⟨_, _, e⟩ := o1_some e; cases e; cases hk
    · cases hc
  | typeAssert x xt t ok =>
    exfalso; rw [ho] at hc; simp only [cOp] at hc; obtain ⟨_, _, e⟩ := o1_some hc
    split at e
    · cases ok
      · cases e; cases hk
      · obtain ⟨_, _, e⟩ := o1_some e; cases e; cases hk
    · cases ok
      · cases e; cases hk
      · obtain ⟨_, _, e⟩ := o1_some e; cases e; cases hk
    · cases e
  | range t x =>
    exfalso; rw [ho] at hc; simp only [cOp] at hc; obtain ⟨_, _, e⟩ := o1_some hc
    split at e <;> cases e <;> cases hk
  | defer c =>
    exfalso; rw [ho] at hc; simp only [cOp] at hc; obtain ⟨_, _, e⟩ := o1_some hc
    split at e
    · obtain ⟨_, _, e⟩ := o1_some e; cases e; cases hk
    · cases e
  | buildSlice t n ps =>
    exfalso
    rw [ho] at hc
    simp only [cOp] at hc
    obtain ⟨es, _, e⟩ := o1_some hc
    obtain ⟨z, _, e⟩ := o1_some e
    obtain ⟨l, _, e⟩ := o1_some e
    cases hb : (Nat.beq z.len es.2 && Nat.ble (Nat.mul n es.2) 100000 && Nat.blt 0 es.2) <;> rw [hb] at e <;> cases e
    cases hk
  | makeMap t r =>
    exfalso
    rw [ho] at hc
    simp only [cOp] at hc
    split at hc
    · cases hc; cases hk
    · split at hc
      · cases hc; cases hk
      · cases hc
    · cases hc
  | makeSlice t l c =>
    exfalso
    rw [ho] at hc
    simp only [cOp] at hc
    obtain ⟨es, _, e⟩ := o1_some hc
    obtain ⟨z, _, e⟩ := o1_some e
    obtain ⟨l, _, e⟩ := o1_some e
    obtain ⟨l, _, e⟩ := o1_some e
    cases hb : (Nat.beq z.len es.2 && smallBytes P es.1 && Nat.blt 0 es.2) <;> rw [hb] at e <;> cases e
    cases hk
  | _ =>
    exfalso
    rw [ho] at hc
    simp only [cOp] at hc
    cases hc
end Go.Ev

namespace Go.Ev
variable {P : Program} {G : Nat} {env : Env} {tm : T AV} {a : Act} {H : Hp} {nx : Nat} {w : World}

/-- a row of cells: a cons row -/
def AV.isRow : AV → Bool
  | .nil => true
  | .cons _ t => isRow t
  | _ => false

theorem putCells_get : ∀ {l : AV} {c c' : T AV} {i : Nat}, l.isRow = true → putCells c i l = some c' → ∀ j, c'.get j = if i ≤ j ∧ j < i + l.len then l.nth (j - i) else c.get j := by
  intro l
  induction l with
  | cons h t _ iht =>
    intro c c' i hr e j
    simp only [putCells] at e
    split at e
    · rename_i c1 hc1
      have hr' : t.isRow = true := hr
      rw [iht hr' e j]
      have hlen : (AV.cons h t).len = t.len + 1 := rfl
      have hs : Nat.succ i = i + 1 := rfl
      rw [hlen, hs, T.get_put hc1]
      by_cases h1 : j = i
      · subst h1
        have a1 : ¬ (j + 1 ≤ j ∧ j < j + 1 + t.len) := by omega
        have a2 : j ≤ j ∧ j < j + (t.len + 1) := by omega
        rw [if_neg a1, if_pos rfl, if_pos a2, Nat.sub_self]
        rfl
      · rw [if_neg h1]
        by_cases h2 : i + 1 ≤ j ∧ j < i + 1 + t.len
        · have a2 : i ≤ j ∧ j < i + (t.len + 1) := by omega
          rw [if_pos h2, if_pos a2]
          obtain ⟨k, rfl⟩ : ∃ k, j = i + 1 + k := ⟨j - (i + 1), by omega⟩
          rw [show i + 1 + k - (i + 1) = k by omega, show i + 1 + k - i = k + 1 by omega]
          rfl
        · have a2 : ¬ (i ≤ j ∧ j < i + (t.len + 1)) := by omega
          rw [if_neg h2, if_neg a2]
    · cases e
  | nil =>
    intro c c' i _ e j
    simp only [putCells] at e
    cases e
    have : ¬ (i ≤ j ∧ j < i + AV.nil.len) := by show ¬ (i ≤ j ∧ j < i + 0); omega
    rw [if_neg this]
  | _ => intro c c' i hr; cases hr

theorem VL.isRow {x : AV} : ∀ {l : List Value}, VL env x l → x.isRow = true := by
  induction x with
  | cons a b _ ihb => rintro l ⟨x, xs, rfl, _, h⟩; exact ihb h
  | nil => intro l _; rfl
  | _ => intro l h; exact h.elim

theorem VL.lt_of_nth {x : AV} {i : Nat} {v : AV} {l : List Value} (h : VL env x l) (hi : x.nth i = some v) : i < x.len := by
  obtain ⟨c, hc, _⟩ := h.nth hi
  rw [h.len]
  exact (List.getElem?_eq_some_iff.1 hc).1

theorem rowOf_cells {l : AV} {c : T AV} (hr : rowOf l = some c) {arr : Array Value} (hl : VL env l arr.toList) : ∀ i v, c.get i = some v → i < l.len ∧ ∃ x, arr[0 + i]? = some x ∧ VR env v x := by
  intro i v hv
  have := putCells_get hl.isRow hr i
  rw [hv] at this
  simp only [Nat.zero_le, true_and, Nat.zero_add, Nat.sub_zero, T.get_e] at this
  split at this
  · rename_i hlt
    obtain ⟨x, hx, r⟩ := hl.nth this.symm
    exact ⟨hlt, x, by simpa using hx, r⟩
  · cases this

/-- an operation makes one block -/
def Mk (P : Program) (a : Act) (env : Env) (o : Oper) (nx : Nat) (v : AV) (ob : AO) (w : World) : Prop :=
  ∃ c obj w', (execOp a.eval o).run P w = .ok (.value c) w' ∧ w'.heap = w.heap.push obj ∧ w'.os = w.os ∧ w'.tape = w.tape ∧ w'.output = w.output ∧
    ∃ L : Loc, L.b = w.heap.size ∧ ∀ env', Le env env' → env' nx = some L → VR env' v c ∧ OR env' L ob obj

/-- a shut row of cells -/
theorem OR_row {l : AV} {c : T AV} (hr : rowOf l = some c) {arr : Array Value} (hl : VL env l arr.toList) (b e : Nat) : OR env ⟨b, 0, 0, 0⟩ (.cells c l.len 0 e) (.cells arr e (0, 0)) := by
  have hlen := hl.len
  simp only [Array.length_toList] at hlen
  exact ⟨arr, (0, 0), rfl, by simp [hlen], fun _ => ⟨rfl, hlen⟩, fun h => absurd rfl h, rowOf_cells hr hl, fun k _ h => by have := h.2; simp at this⟩

theorem mk_row {o : Oper} {v : AV} {l : AV} {c : T AV} {e : Nat} (hr : rowOf l = some c) {arr : Array Value} (hl : ∀ env', Le env env' → VL env' l arr.toList) {r : Value}
    (hrun : (execOp a.eval o).run P w = .ok (.value r) { w with heap := w.heap.push (.cells arr e) }) (hv : ∀ env', Le env env' → env' nx = some ⟨w.heap.size, 0, 0, 0⟩ → VR env' v r) : Mk P a env o nx v (.cells c l.len 0 e) w :=
  ⟨r, .cells arr e, _, hrun, rfl, rfl, rfl, rfl, ⟨w.heap.size, 0, 0, 0⟩, rfl, fun env' h1 h2 => ⟨hv env' h1 h2, OR_row hr (hl env' h1) _ _⟩⟩

theorem newRow_run (e : Nat) (arr : Array Value) : (newRow e arr).run P w = .ok ⟨w.heap.size, 0, none⟩ { w with heap := w.heap.push (.cells arr e) } := by simp [newRow]

theorem mk_alloc {t : Nat} {o : Oper} (ho : o.op = .alloc t) {z : AV} (hz : tyZeroC P t = some z) {c : T AV} (hc : rowOf z = some c) : Mk P a env o nx (.ptr nx 0) (.cells c z.len 0 t) w := by
  obtain ⟨v, e1, e2⟩ := zeroC_run hz w
  refine mk_row (r := .pointer (some ⟨w.heap.size, 0, none⟩)) hc (fun env' _ => e2 env') ?_ (fun env' _ h => ⟨_, h, rfl⟩)
  simp [execOp, ho, Instr.alloc, e1, newVar, newRow]

theorem mk_box (hg : GL G env) (ht : TR env tm a.tmps) {t : Nat} {x : Operand} {x' : CO} {o : Oper} (ho : o.op = .box t x) (hx : opdOf G x = some x') {v : AV} (hv : opd tm x' = some v) {c : T AV} (hc : rowOf v.cells = some c) : Mk P a env o nx (.ptr nx 0) (.cells c v.cells.len 0 t) w := by
  have r := opd_sound hg ht hx hv
  refine mk_row (r := .pointer (some ⟨w.heap.size, 0, none⟩)) hc (fun env' h => (r.ext h).cells) ?_ (fun env' _ h => ⟨_, h, rfl⟩)
  simp [execOp, ho, Instr.box, newVar, newRow]

theorem AV.rep_isRow {z : AV} (hz : z.isRow = true) : ∀ n, (z.rep n).isRow = true
  | 0 => rfl
  | n + 1 => by
    have ih := rep_isRow hz n
    show (z.app (z.rep n)).isRow = true
    have : ∀ x : AV, x.isRow = true → (x.app (z.rep n)).isRow = true := by
      intro x
      induction x with
      | cons h t _ iht => intro hx; exact iht hx
      | nil => intro _; exact ih
      | _ => intro hx; cases hx
    exact this z hz

theorem rep_VL {z : AV} {zs : List Value} (hz : VL env z zs) : ∀ n, VL env (z.rep n) (List.replicate n zs).flatten
  | 0 => rfl
  | n + 1 => by
    rw [List.replicate_succ, List.flatten_cons]
    exact hz.app (rep_VL hz n)

theorem range_rep (zs : List Value) (f : Nat → Value) (hf : ∀ k, k < zs.length → some (f k) = zs[k]?) (hp : ∀ k, f (zs.length + k) = f k) : ∀ n, (List.range (n * zs.length)).map f = (List.replicate n zs).flatten
  | 0 => by simp
  | n + 1 => by
    rw [List.replicate_succ, List.flatten_cons, ← range_rep zs f hf hp n]
    rw [show (n + 1) * zs.length = zs.length + n * zs.length by rw [Nat.add_mul]; omega, List.range_add, List.map_append, List.map_map]
    congr 1
    · apply List.ext_getElem?
      intro k
      rw [List.getElem?_map]
      by_cases hk : k < zs.length
      · rw [List.getElem?_range hk]; exact hf k hk
      · rw [List.getElem?_eq_none (by simpa using hk), List.getElem?_eq_none (by simpa using hk)]; rfl
    · apply List.map_congr_left
      intro k _
      exact hp k

theorem zeros_list (zero : Array Value) (n : Nat) : ((Array.range (n * zero.size)).map (fun i => zero[i % zero.size]!)).toList = (List.replicate n zero.toList).flatten := by
  rw [Array.toList_map, Array.toList_range]
  have := range_rep zero.toList (fun i => zero[i % zero.size]!) (fun k hk => by
    have hk' : k < zero.size := by simpa using hk
    simp [Nat.mod_eq_of_lt hk', hk']) (fun k => by simp) n
  simpa using this

theorem fill_id : ∀ (place : Nat → Option (Nat × Nat)) (cells : Array Value), Instr.fill place cells [] = some cells := fun _ _ => rfl

theorem zeros_VL {z : AV} {zv : Value} (hz : VL env z zv.cells.toList) {s len : Nat} (h1 : z.len = s) (h0 : 0 < s) (zero : Array Value) (hzero : len * s = 0 ∨ zero = zv.cells) :
    VL env (z.rep len) ((Array.range (len * s)).map (fun i => zero[i % zero.size]!)).toList := by
  have hsz : zv.cells.size = s := by have := hz.len; simp at this; omega
  rcases hzero with h | rfl
  · have : len = 0 := by rcases Nat.mul_eq_zero.1 h with h | h <;> omega
    subst this
    simp [AV.rep, VL]
  · rw [← hsz, zeros_list]
    exact rep_VL hz len

theorem mk_bslice (hg : GL G env) (ht : TR env tm a.tmps) {t e s len : Nat} {ps : Array (Nat × Operand)} {l : List (Nat × Nat × CO)} {o : Oper} (ho : o.op = .buildSlice t len ps) (hs : tySlice P t = some (e, s)) {z : AV} (hz : tyZeroC P e = some z) (hl : partsA G s ps.toList = some l)
    (h1 : z.len = s) (h2 : len * s ≤ 100000) (h3 : 0 < s) {m : AV} (hm : fillL tm (z.rep len) l = some m) {c : T AV} (hc : rowOf m = some c) : Mk P a env o nx (.sl nx 0 len (some len)) (.cells c m.len 0 e) w := by
  obtain ⟨u1, u2⟩ := slice_info hs
  obtain ⟨zv, z1, z2⟩ := zeroC_run hz w
  obtain ⟨p1, p2⟩ := partsA_spec hl
  have e2 : (ps.map fun (x : Nat × Operand) => (x.1, a.eval x.2)).toList = ps.toList.map fun (i, x) => (i, a.eval x) := by simp
  have main : ∀ zero : Array Value, (len * s = 0 ∨ zero = zv.cells) → (∀ cells, Instr.fill (fun i => some (i * s, s)) ((Array.range (len * s)).map (fun i => zero[i % zero.size]!)) (ps.map fun (x : Nat × Operand) => (x.1, a.eval x.2)).toList = some cells →
      (execOp a.eval o).run P w = .ok (.value (.slice (some ⟨w.heap.size, 0, none⟩) len len)) { w with heap := w.heap.push (.cells cells e) }) → Mk P a env o nx (.sl nx 0 len (some len)) (.cells c m.len 0 e) w := by
    intro zero hzero hrun
    have kv : ∀ env', VL env' (z.rep len) ((Array.range (len * s)).map (fun i => zero[i % zero.size]!)).toList := fun env' => zeros_VL (z2 env') h1 h3 zero hzero
    have fs : ∀ env', Le env env' → ∃ cells' : Array Value, Instr.fill (fun i => some (i * s, s)) ((Array.range (len * s)).map (fun i => zero[i % zero.size]!)) (ps.toList.map fun (i, x) => (i, a.eval x)) = some cells' ∧ VL env' m cells'.toList :=
      fun env' hle => fill_sound (hg.ext hle) (ht.ext hle) (fun i => some (i * s, s)) p1 p2 (kv env') hm
    obtain ⟨cells, f1, f2⟩ := fs env (Le.refl _)
    refine mk_row (r := .slice (some ⟨w.heap.size, 0, none⟩) len len) (arr := cells) hc (fun env' h => ?_) (hrun cells (by rw [e2]; exact f1)) (fun env' _ h => ⟨_, _, h, rfl, rfl⟩)
    obtain ⟨cells', g1, g2⟩ := fs env' h
    rw [f1] at g1; cases g1; exact g2
  have hb : ¬ (len * s > 2 ^ 24) := by omega
  by_cases h0 : len * s = 0
  · refine main #[] (.inl h0) (fun cells hf => ?_)
    rw [h0] at hf
    simp only [execOp, ho, Instr.buildSlice, Sem.run_bind, underlying_run u1, Result.andThen_ok, sizeOf_run u2, h0, Nat.not_lt_zero, gt_iff_lt, if_false, if_true, Sem.run_pure, hf]
    simp [newRow, hf]
  · refine main zv.cells (.inr rfl) (fun cells hf => ?_)
    simp only [execOp, ho, Instr.buildSlice, Sem.run_bind, underlying_run u1, Result.andThen_ok, sizeOf_run u2, hb, if_false, h0, Sem.run_pure, z1, hf]
    simp [newRow]

theorem rep1_nth (q : AV) : ∀ (c j : Nat), j < c → ((AV.cons q .nil).rep c).nth j = some q
  | 0, j, h => by omega
  | c + 1, 0, _ => rfl
  | c + 1, j + 1, h => rep1_nth q c j (by omega)

theorem mk_map {t : Nat} {r : Option Operand} {o : Oper} (ho : o.op = .makeMap t r) (hr : r = none ∨ ∃ k n kt e, r = some (.const (.int k n)) ∧ P.underlying t = some (.map kt e)) : Mk P a env o nx (.map nx) (.map [] 0) w := by
  refine ⟨.map (some w.heap.size), .map #[] 0, { w with heap := w.heap.push (.map #[] 0) }, ?_, rfl, rfl, rfl, rfl, ⟨w.heap.size, 0, 0, 0⟩, rfl, fun env' _ h => ⟨⟨_, h, rfl⟩, rfl, #[], rfl, rfl⟩⟩
  rcases hr with rfl | ⟨k, n, kt, e, rfl, hu⟩
  · simp [execOp, ho, Instr.makeMap]
  · simp [execOp, ho, Instr.makeMap, underlying_run hu, asInt, asIntOf, Act.eval]

theorem get_rep_OR {z : AV} {n : Nat} {arr : Array Value} (h : ∀ i, i < n → ∃ x, arr[i]? = some x ∧ VR env z x) : ∀ i v, (T.rep z n n).get i = some v → i < n ∧ ∃ x, arr[0 + i]? = some x ∧ VR env v x := by
  intro i v hv
  obtain ⟨rfl, hi⟩ := T.get_rep z n n i v hv
  obtain ⟨x, h1, h2⟩ := h i hi
  exact ⟨hi, x, by simpa using h1, h2⟩

set_option maxRecDepth 4000 in
theorem mk_slice (hg : GL G env) (ht : TR env tm a.tmps) {t e s : Nat} {lo co : Operand} {lo' co' : CO} {o : Oper} (ho : o.op = .makeSlice t lo co) (hs : tySlice P t = some (e, s)) {z : AV} (hz : tyZeroC P e = some z) (hl : opdOf G lo = some lo') (hc : opdOf G co = some co')
    (h1 : z.len = s) (h2 : smallBytes P e = true) (h3 : 0 < s) {l c : Nat} (el : natOf (opd tm lo') = some l) (ec : natOf (opd tm co') = some c) (hlc : l ≤ c) (hc5 : c ≤ 100000) {tc : T AV} (htc : (∃ z1, z = .cons z1 .nil ∧ tc = T.rep z1 c c) ∨ rowOf (z.rep c) = some tc) :
    Mk P a env o nx (.sl nx 0 l (some c)) (.cells tc (c * s) 0 e) w := by
  obtain ⟨u1, u2⟩ := slice_info hs
  obtain ⟨zv, z1, z2⟩ := zeroC_run hz w
  obtain ⟨k1, v1⟩ := nat_opd hg ht hl el
  obtain ⟨k2, v2⟩ := nat_opd hg ht hc ec
  unfold smallBytes at h2
  split at h2
  case h_2 => cases h2
  rename_i i hi
  have hby : i.bytes ≤ 1000000 := Nat.le_of_ble_eq_true h2
  have hbc : i.bytes * c ≤ 1000000 * 100000 := Nat.mul_le_mul hby hc5
  have wl : IntKind.i64.wrap (l : Int) = l := kwrap_nat .i64 l (by show l ≤ 9223372036854775807; omega)
  have wc : IntKind.i64.wrap (c : Int) = c := kwrap_nat .i64 c (by show c ≤ 9223372036854775807; omega)
  have hcond : ((decide ((c : Int) < 0) || decide (((i.bytes : Nat) : Int) * (c : Int) > 2 ^ 48)) || decide ((l : Int) < 0) || decide ((l : Int) > (c : Int))) = false := by
    have hh : ((i.bytes : Nat) : Int) * (c : Int) ≤ 100000000000 := by rw [← Int.natCast_mul]; generalize i.bytes * c = q at hbc; omega
    simp only [Bool.or_eq_false_iff, decide_eq_false_iff_not]
    refine ⟨⟨⟨by omega, by omega⟩, by omega⟩, by omega⟩
  have main : ∀ zero : Array Value, (c * s = 0 ∨ zero = zv.cells) → (execOp a.eval o).run P w = .ok (.value (.slice (some ⟨w.heap.size, 0, none⟩) l c)) { w with heap := w.heap.push (.cells ((Array.range (c * s)).map (fun i => zero[i % zero.size]!)) e) } →
      Mk P a env o nx (.sl nx 0 l (some c)) (.cells tc (c * s) 0 e) w := by
    intro zero hzero hrun
    have kv : ∀ env', VL env' (z.rep c) ((Array.range (c * s)).map (fun i => zero[i % zero.size]!)).toList := fun env' => zeros_VL (z2 env') h1 h3 zero hzero
    have hsz : ((Array.range (c * s)).map (fun i => zero[i % zero.size]!)).size = c * s := by simp
    refine ⟨_, _, _, hrun, rfl, rfl, rfl, rfl, ⟨w.heap.size, 0, 0, 0⟩, rfl, fun env' _ h => ⟨⟨_, _, h, rfl, rfl⟩, ?_⟩⟩
    refine ⟨_, (0, 0), rfl, by rw [hsz]; simp, fun _ => ⟨rfl, hsz.symm⟩, fun h => absurd rfl h, ?_, fun k _ h => by have := h.2; simp at this⟩
    rcases htc with ⟨q, hq, rfl⟩ | hrow
    · subst hq
      have hs1 : s = 1 := h1.symm
      subst hs1
      rw [Nat.mul_one]
      have key := kv env'
      refine get_rep_OR (fun j hj => ?_)
      have hn := rep1_nth q c j hj
      obtain ⟨x, hx, r⟩ := key.nth hn
      rw [Nat.mul_one] at hx
      exact ⟨x, by rw [← Array.getElem?_toList]; exact hx, r⟩
    · have := rowOf_cells hrow (kv env')
      have hlen := (kv env').len
      simp only [Array.length_toList, hsz] at hlen
      rw [hlen] at this
      exact this
  have c0 : ¬ ((c : Int) < 0) := by omega
  by_cases h0 : c * s = 0
  · refine main #[] (.inl h0) ?_
    simp only [execOp, ho, Instr.makeSlice, Sem.run_bind, underlying_run u1, Result.andThen_ok, v1, v2, asInt, asIntOf, Sem.run_pure, typeInfo, run_program, hi, wl, wc]
    rw [if_neg (by rw [hcond]; simp)]
    simp only [Sem.run_bind, Sem.run_pure, Result.andThen_ok, run_askRoom, Int.toNat_natCast, sizeOf_run u2, h0, if_true]
    simp [newRow, h0]
  · refine main zv.cells (.inr rfl) ?_
    simp only [execOp, ho, Instr.makeSlice, Sem.run_bind, underlying_run u1, Result.andThen_ok, v1, v2, asInt, asIntOf, Sem.run_pure, typeInfo, run_program, hi, wl, wc]
    rw [if_neg (by rw [hcond]; simp)]
    simp only [Sem.run_bind, Sem.run_pure, Result.andThen_ok, run_askRoom, Int.toNat_natCast, sizeOf_run u2, h0, if_false, z1]
    simp [newRow]

theorem bytesA_VL (env : Env) : ∀ l : List Nat, VL env (bytesA l) (l.map fun n : Nat => Value.int .u8 (n : Int))
  | [] => rfl
  | n :: l => ⟨.int .u8 (n : Int), _, rfl, rfl, bytesA_VL env l⟩
theorem bytesA_len : ∀ l : List Nat, (bytesA l).len = l.length
  | [] => rfl
  | _ :: l => by show Nat.succ (bytesA l).len = _; rw [bytesA_len l]; rfl

theorem modify_push {α : Type} (xs : Array α) (x : α) (f : α → α) : (xs.push x).modify xs.size f = xs.push (f x) := by
  apply Array.ext_getElem?
  intro i
  rw [Array.getElem?_modify, Array.getElem?_push, Array.getElem?_push]
  by_cases h : xs.size = i
  · subst h; simp
  · have : ¬ i = xs.size := fun e => h e.symm
    simp [h, this]

theorem mk_bytes (hg : GL G env) (ht : TR env tm a.tmps) {s d e : Nat} {x : Operand} {x' : CO} {o : Oper} (ho : o.op = .convert s d x) (hx : opdOf G x = some x') (h1 : P.underlying s = some .string) (h2 : P.underlying d = some (.slice e)) (h3 : P.underlying e = some (.int .u8))
    {l : List Nat} (hl : opd tm x' = some (.str l)) {c : T AV} (hc : rowOf (bytesA l) = some c) : Mk P a env o nx (.sl nx 0 l.length none) (.cells c l.length 1 e) w := by
  obtain ⟨u, r1, r2⟩ := opd_sound hg ht hx hl
  subst r2
  let cap := (Question.appendCap u.size 0 e).cut (w.tape w.drawn (.appendCap u.size 0 e))
  have hcap : u.size ≤ cap := by show u.size ≤ u.size + _; omega
  let arr : Array Value := u.data.map (fun b => Value.int .u8 b.toNat) ++ Array.replicate (cap - u.size) (.int .u8 0)
  have hsz : arr.size = cap := by simp [arr]; have : u.data.size = u.size := rfl; omega
  have hlen : (u.data.toList.map (·.toNat)).length = u.size := by simp
  refine ⟨.slice (some ⟨w.heap.size, 0, none⟩) u.size cap, .cells arr e (cap, cap + 1), { w with drawn := w.drawn + 1, heap := w.heap.push (.cells arr e (cap, cap + 1)) }, ?_, rfl, rfl, rfl, rfl, ⟨w.heap.size, 0, cap, 1⟩, rfl, fun env' _ h => ⟨?_, ?_⟩⟩
  · have fz : ∀ (w' : World), w'.heap = w.heap.push (.cells arr e) → (markStringish ⟨w.heap.size, 0, none⟩).run P w' = .ok () { w' with heap := w.heap.push (.cells arr e (cap, cap + 1)) } := by
      intro w' hw'
      have hsh : w'.shape? w.heap.size = some (e, cap) := by simp [World.shape?, hw', hsz]
      simp only [markStringish, Sem.run_bind, run_shape, hsh, Result.andThen_ok, run_freeze]
      congr 1
      simp only [World.freeze, hw', modify_push]
      simp
    simp only [execOp, ho, r1, convert, Sem.run_bind, underlying_run h1, underlying_run h2, underlying_run h3, Result.andThen_ok, Conv.stringToBytes]
    simp only [run_choose, Question.forced, Bool.false_eq_true, if_false, Result.andThen_ok, newRow_run]
    rw [fz _ rfl]
    simp only [Result.andThen_ok, Sem.run_pure]
    rfl
  · rw [hlen]; exact ⟨_, _, h, rfl, by show 0 + cap * 1 = cap; omega⟩
  · rw [hlen]
    refine ⟨arr, (cap, cap + 1), rfl, by show 0 + u.size ≤ arr.size; omega, fun h => (by cases h), fun _ => ⟨rfl, by show 0 + cap = arr.size; omega⟩, ?_, fun k hk h => by have := h.1; simp only at this; omega⟩
    intro i v hv
    have hr := putCells_get (bytesA_VL env' (u.data.toList.map (fun b : UInt8 => b.toNat))).isRow hc i
    rw [hv] at hr
    simp only [Nat.zero_le, true_and, Nat.zero_add, Nat.sub_zero, T.get_e] at hr
    split at hr
    · rename_i hlt
      rw [bytesA_len, hlen] at hlt
      obtain ⟨x, hx, r⟩ := (bytesA_VL env' (u.data.toList.map (fun b : UInt8 => b.toNat))).nth hr.symm
      refine ⟨hlt, x, ?_, r⟩
      have e1 : arr[0 + i]? = (u.data.map (fun b => Value.int .u8 b.toNat))[i]? := by
        simp only [arr, Nat.zero_add]
        rw [Array.getElem?_append_left (by simpa using hlt)]
      rw [e1]
      simpa using hx
    · cases hr
end Go.Ev

namespace Go.Ev
variable {P : Program} {G : Nat} {env : Env} {tm : T AV} {a : Act} {H : Hp} {nx : Nat} {w : World}

set_option maxHeartbeats 4000000 in
theorem new_sound (hg : GL G env) (ht : TR env tm a.tmps) {o : Oper} {co : COp} (hc : cOp P G o.op = some co) (hk : kind co = 2) {v : AV} {ob : AO} (h : newA co tm nx = some (v, ob)) : Mk P a env o nx v ob w := by
  cases ho : o.op with
  | alloc t =>
    rw [ho] at hc
    simp only [cOp] at hc
    obtain ⟨z, hz, e⟩ := o1_some hc
    cases e
    simp only [newA] at h
    split at h
    · rename_i c hr; cases h; exact mk_alloc ho hz hr
    · cases h
  | box t x =>
    rw [ho] at hc
    simp only [cOp] at hc
    obtain ⟨x', hx, e⟩ := o1_some hc
    cases e
    simp only [newA] at h
    split at h
    · rename_i v hv
      split at h
      · rename_i c hr; cases h; exact mk_box hg ht ho hx hv hr
      · cases h
    · cases h
  | buildSlice t n ps =>
    rw [ho] at hc
    simp only [cOp] at hc
    obtain ⟨⟨el, s⟩, hes, e⟩ := o1_some hc
    simp only at e
    obtain ⟨z, hz, e⟩ := o1_some e
    obtain ⟨l, hl, e⟩ := o1_some e
    cases hb : (Nat.beq z.len s && Nat.ble (Nat.mul n s) 100000 && Nat.blt 0 s) <;> rw [hb] at e <;> cases e
    obtain ⟨b1, b2, b3⟩ := conj3 hb
    simp only [newA] at h
    split at h
    · rename_i m hm
      split at h
      · rename_i c hr; cases h
        exact mk_bslice hg ht ho hes hz hl (Nat.eq_of_beq_eq_true b1) (Nat.le_of_ble_eq_true b2) (by simpa using b3) hm hr
      · cases h
    · cases h
  | makeMap t r =>
    rw [ho] at hc
    simp only [cOp] at hc
    split at hc
    · cases hc; cases h; exact mk_map ho (.inl rfl)
    · rename_i k n
      split at hc
      · rename_i kt e hu; cases hc; cases h; exact mk_map ho (.inr ⟨k, n, kt, e, rfl, hu⟩)
      · cases hc
    · cases hc
  | makeSlice t l c =>
    rw [ho] at hc
    simp only [cOp] at hc
    obtain ⟨⟨el, s⟩, hes, e⟩ := o1_some hc
    simp only at e
    obtain ⟨z, hz, e⟩ := o1_some e
    obtain ⟨l', hl, e⟩ := o1_some e
    obtain ⟨c', hcc, e⟩ := o1_some e
    cases hb : (Nat.beq z.len s && smallBytes P el && Nat.blt 0 s) <;> rw [hb] at e <;> cases e
    obtain ⟨b1, b2, b3⟩ := conj3 hb
    simp only [newA] at h
    split at h
    · rename_i l c e1 e2
      cases hb2 : (Nat.ble l c && Nat.ble c 100000) <;> rw [hb2] at h
      · cases h
      · simp only [Bool.and_eq_true] at hb2
        have fin : ∀ tc, ((∃ z1, z = .cons z1 .nil ∧ tc = T.rep z1 c c) ∨ rowOf (z.rep c) = some tc) → Mk P a env o nx (.sl nx 0 l (some c)) (.cells tc (c * s) 0 el) w := fun tc htc =>
          mk_slice hg ht ho hes hz hl hcc (Nat.eq_of_beq_eq_true b1) b2 (by simpa using b3) e1 e2 (Nat.le_of_ble_eq_true hb2.1) (Nat.le_of_ble_eq_true hb2.2) htc
        simp only [cond_true] at h
        split at h
        · cases h
          have hs1 : s = 1 := (Nat.eq_of_beq_eq_true b1).symm
          have := fin _ (.inl ⟨_, rfl, rfl⟩)
          rw [hs1, Nat.mul_one] at this
          exact this
        · split at h
          · rename_i tc htc; cases h; exact fin tc (.inr htc)
          · cases h
    · cases h
  | convert s d x =>
    rw [ho] at hc
    simp only [cOp] at hc
    obtain ⟨x', hx, e⟩ := o1_some hc
    unfold cConvert at e
    split at e
    · cases e; cases hk
    · cases e; cases hk
    · cases e; cases hk
    · split at e
      · cases e; cases hk
      · cases e
    · rename_i el hs' hd
      split at e
      · rename_i he
        cases e
        simp only [newA] at h
        split at h
        · rename_i l hl
          split at h
          · rename_i c hr; cases h; exact mk_bytes hg ht ho hx hs' hd he hl hr
          · cases h
        · cases h
      · cases e
    · split at e
      · cases e; cases hk
      · cases e
    · split at e
      · cases e; cases hk
      · cases e
    · cases e
  | slice t x lo hi mx =>
    exfalso
    rw [ho] at hc
    simp only [cOp] at hc
    obtain ⟨x', hx, e⟩ := o1_some hc
    obtain ⟨lo', h1, e⟩ := o1_some e
    obtain ⟨hi', h2, e⟩ := o1_some e
    obtain ⟨mx', h3, e⟩ := o1_some e
    cases hm : (mx'.isSome && !hi'.isSome) <;> rw [hm] at e
    · simp only [cond_false] at e
      split at e
      · cases hms : mx'.isSome <;> rw [hms] at e <;> cases e
        cases hk
      · obtain ⟨s, _, e⟩ := o1_some e; cases e; cases hk
      · obtain ⟨s, _, e⟩ := o1_some e; cases e; cases hk
      · obtain ⟨s, _, e⟩ := o1_some e; cases e; cases hk
      · cases e
    · cases e
  | call c =>
    exfalso
    rw [ho] at hc
    simp only [cOp] at hc
    obtain ⟨xs, _, e⟩ := o1_some hc
    split at e
    · rcases cBuiltin_kind e with q | q <;> rw [hk] at q <;> cases q
    · obtain ⟨f, _, e⟩ := o1_some e; cases e; cases hk
    · obtain ⟨f, _, e⟩ := o1_some e; cases e; cases hk
  | load t x =>
    exfalso
    rw [ho] at hc
    simp only [cOp] at hc
    obtain ⟨x', _, e⟩ := o1_some hc
    obtain ⟨g, _, e⟩ := o1_some e
    cases g
    · cases e; cases hk
    · obtain ⟨n, _, e⟩ := o1_some e; cases e; cases hk
  | lookup t m k ok =>
    exfalso
    rw [ho] at hc
    simp only [cOp] at hc
    split at hc
    · obtain ⟨_, _, e⟩ := o1_some hc
      obtain ⟨_, _, e⟩ := o1_some e
      obtain ⟨_, _, e⟩ := o1_some e
      obtain ⟨_, _, e⟩ := o1_some e
      cases e; cases hk
    · cases hc
  | store t x y =>
    exfalso
    rw [ho] at hc
    simp only [cOp] at hc
    obtain ⟨_, _, e⟩ := o1_some hc
    obtain ⟨_, _, e⟩ := o1_some e
    obtain ⟨_, _, e⟩ := o1_some e
    cases e; cases hk
  | mapUpdate t m k x =>
    exfalso
    rw [ho] at hc
    simp only [cOp] at hc
    obtain ⟨_, _, e⟩ := o1_some hc
    obtain ⟨_, _, e⟩ := o1_some e
    obtain ⟨_, _, e⟩ := o1_some e
    obtain ⟨_, _, e⟩ := o1_some e
    cases e; cases hk
  | insert t m k x =>
    exfalso
    rw [ho] at hc
    simp only [cOp] at hc
    obtain ⟨_, _, e⟩ := o1_some hc
    obtain ⟨_, _, e⟩ := o1_some e
    obtain ⟨_, _, e⟩ := o1_some e
    obtain ⟨_, _, e⟩ := o1_some e
    cases e; cases hk
  | range t x =>
    exfalso
    rw [ho] at hc
    simp only [cOp] at hc
    obtain ⟨_, _, e⟩ := o1_some hc
    split at e
    · cases e; cases hk
    · cases e; cases hk
    · cases e
  | next x s =>
    exfalso
    rw [ho] at hc
    simp only [cOp] at hc
    obtain ⟨_, _, e⟩ := o1_some hc
    cases e; cases hk
  | defer c =>
    exfalso
    rw [ho] at hc
    simp only [cOp] at hc
    obtain ⟨_, _, e⟩ := o1_some hc
    split at e
    · obtain ⟨_, _, e⟩ := o1_some e; cases e; cases hk
    · cases e
  | move x => exfalso; rw [ho] at hc; simp only [cOp] at hc; obtain ⟨_, _, e⟩ := o1_some hc; cases e; cases hk
  | assign x => exfalso; rw [ho] at hc; simp only [cOp] at hc; obtain ⟨_, _, e⟩ := o1_some hc; cases e; cases hk
  | pick x y z => exfalso; rw [ho] at hc; simp only [cOp] at hc; obtain ⟨_, _, e⟩ := o1_some hc; obtain ⟨_, _, e⟩ := o1_some e; obtain ⟨_, _, e⟩ := o1_some e; cases e; cases hk
  | nilCheck t => exfalso; rw [ho] at hc; simp only [cOp] at hc; obtain ⟨_, _, e⟩ := o1_some hc; cases e; cases hk
  | extract x s => exfalso; rw [ho] at hc; simp only [cOp] at hc; obtain ⟨_, _, e⟩ := o1_some hc; cases e; cases hk
  | makeFunc f p q => exfalso; rw [ho] at hc; simp only [cOp] at hc; obtain ⟨_, _, e⟩ := o1_some hc; obtain ⟨_, _, e⟩ := o1_some e; cases e; cases hk
  | makeInterface t x => exfalso; rw [ho] at hc; simp only [cOp] at hc; obtain ⟨_, _, e⟩ := o1_some hc; split at e <;> cases e; cases hk
  | binOp op t x y u =>
    exfalso; rw [ho] at hc; simp only [cOp] at hc; obtain ⟨_, _, e⟩ := o1_some hc; obtain ⟨_, _, e⟩ := o1_some e
    cases op <;> first | (obtain ⟨_, _, e⟩ := o1_some e; cases e; cases hk; done) | (cases e; cases hk; done)
  | unOp op t x => exfalso; rw [ho] at hc; simp only [cOp] at hc; obtain ⟨_, _, e⟩ := o1_some hc; cases op <;> first | (cases e; cases hk; done) | (cases e; done)
  | fieldAddr s x f => exfalso; rw [ho] at hc; simp only [cOp] at hc; obtain ⟨_, _, e⟩ := o1_some hc; split at e; obtain ⟨_, _, e⟩ := o1_some e; cases e; cases hk; cases e
  | field t x f =>
    exfalso; rw [ho] at hc; simp only [cOp] at hc; obtain ⟨_, _, e⟩ := o1_some hc; obtain ⟨_, _, e⟩ := o1_some e; obtain ⟨g, _, e⟩ := o1_some e
    cases g
    · cases e; cases hk
    · obtain ⟨_, _, e⟩ := o1_some e; cases e; cases hk
  | indexAddr t x i =>
    exfalso; rw [ho] at hc; simp only [cOp] at hc; obtain ⟨_, _, e⟩ := o1_some hc; obtain ⟨_, _, e⟩ := o1_some e
    split at e
    · obtain ⟨_, _, e⟩ := o1_some e; cases e; cases hk
    · obtain ⟨_, _, e⟩ := o1_some e; cases e; cases hk
    · cases e
  | index t x i =>
    exfalso; rw [ho] at hc; simp only [cOp] at hc; obtain ⟨_, _, e⟩ := o1_some hc; obtain ⟨_, _, e⟩ := o1_some e
    split at e
    · cases e; cases hk
    · obtain ⟨_, _, e⟩ := o1_some e; obtain ⟨g, _, e⟩ := o1_some e; cases g <;> cases e <;> cases hk
    · cases e
  | build t ps =>
    exfalso; rw [ho] at hc; simp only [cOp] at hc
    split at hc
    · rename_i z fs _ _
      cases hsz : sized P fs.toList <;> rw [hsz] at hc
      · cases hc
      · obtain ⟨_, _, e⟩ := o1_some hc; cases e; cases hk
    · obtain ⟨_, _, e⟩ := o1_some hc; obtain ⟨_, _, e⟩ := o1_some e; cases e; cases hk
    · cases hc
  | typeAssert x xt t ok =>
    exfalso; rw [ho] at hc; simp only [cOp] at hc; obtain ⟨_, _, e⟩ := o1_some hc
    split at e
    · cases ok
      · cases e; cases hk
      · obtain ⟨_, _, e⟩ := o1_some e; cases e; cases hk
    · cases ok
      · cases e; cases hk
      · obtain ⟨_, _, e⟩ := o1_some e; cases e; cases hk
    · cases e
  | _ =>
    exfalso
    rw [ho] at hc
    simp only [cOp] at hc
    cases hc
end Go.Ev

namespace Go.Ev
variable {P : Program} {G : Nat} {env : Env} {tm : T AV} {a : Act} {H : Hp} {nx : Nat} {w : World}

theorem oneA_cell {v : AV} (h : oneA v = true) {x : Value} (hx : VR env v x) : x.oneCell' = true := by
  cases v <;> simp only [oneA] at h <;> first
    | (cases h; done)
    | (simp only [VR] at hx; subst hx; rfl)
    | (obtain ⟨_, rfl, _⟩ := hx; rfl)
    | (obtain ⟨_, _, rfl⟩ := hx; rfl)
    | (obtain ⟨_, _, _, rfl, _⟩ := hx; rfl)
    | (obtain ⟨_, _, rfl, _⟩ := hx; rfl)
    | (cases x <;> first | rfl | (simp [VR, Value.oneCell] at hx; done))

theorem allOne_cells : ∀ {l : AV} {xs : List Value}, allOne l = true → VL env l xs → ∀ x ∈ xs, x.oneCell' = true := by
  intro l
  induction l with
  | cons h t _ iht =>
    rintro xs e ⟨y, ys, rfl, hy, hys⟩ x hx
    simp only [allOne] at e
    cases ho : oneA h with
    | false => rw [ho] at e; cases e
    | true =>
      rw [ho] at e
      rcases List.mem_cons.1 hx with rfl | hx
      · exact oneA_cell ho hy
      · exact iht e hys x hx
  | nil => rintro xs _ rfl x hx; cases hx
  | _ => intro xs _ h; exact h.elim

theorem setCell_heap {b off : Nat} {arr : Array Value} {e : Nat} {fr : Nat × Nat} (h : w.heap[b]? = some (.cells arr e fr)) (v : Value) :
    (w.setCell ⟨b, off, none⟩ v).heap.size = w.heap.size ∧ (∀ k, k ≠ b → (w.setCell ⟨b, off, none⟩ v).heap[k]? = w.heap[k]?) ∧ (w.setCell ⟨b, off, none⟩ v).heap[b]? = some (.cells (arr.setIfInBounds off v) e fr) := by
  refine ⟨by simp [World.setCell], fun k hk => ?_, ?_⟩
  · have : ¬ b = k := fun e => hk e.symm
    simp [World.setCell, Array.getElem?_modify, this]
  · simp [World.setCell, Array.getElem?_modify, h]

theorem storeCells_run {b off : Nat} {e : Nat} {fr : Nat × Nat} : ∀ (vs : List Value) (i : Nat) (w : World) (arr : Array Value), w.heap[b]? = some (.cells arr e fr) → off + i + vs.length ≤ arr.size → (∀ x ∈ vs, x.oneCell' = true) → (∀ k, k < arr.size → ¬ (fr.1 ≤ k ∧ k < fr.2)) →
    ∃ w' arr', (storeCells ⟨b, off, none⟩ vs i).run P w = .ok () w' ∧ w'.heap.size = w.heap.size ∧ (∀ k, k ≠ b → w'.heap[k]? = w.heap[k]?) ∧ w'.heap[b]? = some (.cells arr' e fr) ∧ arr'.size = arr.size ∧
      (∀ k, arr'[k]? = if off + i ≤ k ∧ k < off + i + vs.length then vs[k - (off + i)]? else arr[k]?) ∧ w'.os = w.os ∧ w'.tape = w.tape ∧ w'.output = w.output
  | [], i, w, arr, h, _, _, _ => by
    refine ⟨w, arr, rfl, rfl, fun _ _ => rfl, h, rfl, fun k => ?_, rfl, rfl, rfl⟩
    have : ¬ (off + i ≤ k ∧ k < off + i + ([] : List Value).length) := by simp only [List.length_nil]; omega
    rw [if_neg this]
  | v :: vs, i, w, arr, h, hl, h1, hf => by
    simp only [List.length_cons] at hl
    have hlt : off + i < arr.size := by omega
    have hc : w.cell? ⟨b, off + i, none⟩ = some arr[off + i] := by rw [cell_at h]; simp [hlt]
    have hfz : w.frozen? ⟨b, off + i, none⟩ = false := by
      obtain ⟨lo, hi⟩ := fr
      simp only [World.frozen?, h]
      have := hf (off + i) hlt
      simp only [Bool.and_eq_false_imp, decide_eq_true_eq, decide_eq_false_iff_not]
      intro q r; exact this ⟨q, r⟩
    obtain ⟨s1, s2, s3⟩ := setCell_heap (off := off + i) h v
    obtain ⟨w', arr', r1, r2, r3, r4, r5, r6, r7, r8, r9⟩ := storeCells_run (off := off) vs (i + 1) (w.setCell ⟨b, off + i, none⟩ v) (arr.setIfInBounds (off + i) v) s3 (by simp; omega) (fun x hx => h1 x (by simp [hx])) (fun k hk => hf k (by simpa using hk))
    refine ⟨w', arr', ?_, by rw [r2, s1], fun k hk => by rw [r3 k hk, s2 k hk], r4, by rw [r5]; simp, fun k => ?_, by rw [r7]; rfl, by rw [r8]; rfl, by rw [r9]; rfl⟩
    · simp only [storeCells, Sem.run_bind, add_none]
      rw [run_store P w _ v .plain (h1 v (by simp))]
      simp only [hc, hfz, Bool.false_eq_true, if_false, Result.andThen_ok]
      exact r1
    · rw [r6 k]
      simp only [List.length_cons]
      by_cases c1 : off + (i + 1) ≤ k ∧ k < off + (i + 1) + vs.length
      · have c2 : off + i ≤ k ∧ k < off + i + (vs.length + 1) := by omega
        rw [if_pos c1, if_pos c2]
        obtain ⟨j, rfl⟩ : ∃ j, k = off + (i + 1) + j := ⟨k - (off + (i + 1)), by omega⟩
        rw [show off + (i + 1) + j - (off + (i + 1)) = j by omega, show off + (i + 1) + j - (off + i) = j + 1 by omega]
        simp
      · rw [if_neg c1]
        by_cases c3 : k = off + i
        · subst c3
          have c2 : off + i ≤ off + i ∧ off + i < off + i + (vs.length + 1) := by omega
          rw [if_pos c2]
          simp [hlt]
        · have c2 : ¬ (off + i ≤ k ∧ k < off + i + (vs.length + 1)) := by omega
          rw [if_neg c2]
          rw [Array.getElem?_setIfInBounds_ne (fun e => c3 e.symm)]

/-- a row is laid over a row that is there -/
theorem wrAt_sound (hs : SR env H nx w) {id off : Nat} {L : Loc} (he : env id = some L) {l : AV} {H' : Hp} (h : wrAt G H id off l = some H') {xs : List Value} (hl : VL env l xs) :
    ∃ w', (storeCells ⟨L.b, L.base + off, none⟩ xs).run P w = .ok () w' ∧ SR env H' nx w' ∧ Tr G env H nx w env H' nx w' := by
  unfold wrAt at h
  split at h
  · rename_i c n sz e hq
    cases hb : (Nat.ble G id && Nat.ble (Nat.add off l.len) n && allOne l) <;> rw [hb] at h
    · cases h
    · simp only [cond_true] at h
      obtain ⟨b1, b2, b3⟩ := conj3 hb
      have b1 := Nat.le_of_ble_eq_true b1
      have b2 : off + l.len ≤ n := Nat.le_of_ble_eq_true b2
      split at h
      · rename_i c' hc'
        obtain ⟨arr, fr, g1, g2, g3, g4, g5, g6⟩ := hs.cells he hq
        have hlen := hl.len
        obtain ⟨w', arr', r1, r2, r3, r4, r5, r6, r7, r8, r9⟩ := storeCells_run (P := P) (off := L.base + off) xs 0 w arr g1 (by omega) (allOne_cells b3 hl) g6
        refine ⟨w', r1, hs.turn he b1 hq rfl h r3 r4 r2 r7 r8 r9 ?_⟩
        refine ⟨arr', fr, rfl, by omega, fun h => by have := g3 h; omega, fun h => by have := g4 h; omega, fun i v hv => ?_, fun k hk => g6 k (by omega)⟩
        have hget := putCells_get hl.isRow hc' i
        rw [hv] at hget
        have ha := r6 (L.base + i)
        simp only [Nat.add_zero] at ha
        split at hget
        · rename_i hin
          obtain ⟨x, hx, r⟩ := hl.nth hget.symm
          have hin' : L.base + off ≤ L.base + i ∧ L.base + i < L.base + off + xs.length := by omega
          rw [if_pos hin'] at ha
          refine ⟨by omega, x, ?_, r⟩
          rw [ha, show L.base + i - (L.base + off) = i - off by omega]
          exact hx
        · rename_i hout
          have hout' : ¬ (L.base + off ≤ L.base + i ∧ L.base + i < L.base + off + xs.length) := by omega
          rw [if_neg hout'] at ha
          obtain ⟨q1, x, q2, q3⟩ := g5 i v hget.symm
          exact ⟨q1, x, by rw [ha]; exact q2, q3⟩
      · cases h
  · cases h

/-- an operation acts -/
def Acts (P : Program) (G : Nat) (a : Act) (env : Env) (H : Hp) (nx : Nat) (w : World) (o : Oper) (v : AV) (H' : Hp) (nx' : Nat) : Prop :=
  ∃ env' w' c, ((execOp a.eval o).run P w = .ok (.value c) w' ∨ ((execOp a.eval o).run P w = .ok .skip w' ∧ c = undef)) ∧ VR env' v c ∧ SR env' H' nx' w' ∧ Tr G env H nx w env' H' nx' w'

theorem undef_VR (env : Env) : VR env undefA undef := ⟨#[], rfl, rfl⟩

theorem up_some {a0 : AV} {nx : Nat} {x : Option Hp} {v : AV} {H' : Hp} {nx' : Nat} (h : R.up a0 nx x = .v v H' nx') : x = some H' ∧ v = a0 ∧ nx' = nx := by
  unfold R.up at h
  split at h
  · cases h; exact ⟨rfl, rfl, rfl⟩
  · cases h

theorem act_store (hg : GL G env) (ht : TR env tm a.tmps) (hs : SR env H nx w) {t : Nat} {x y : Operand} {o : Oper} (ho : o.op = .store t x y) {co : COp} (hc : cOp P G o.op = some co) {v : AV} {H' : Hp} {nx' : Nat} (h : heavyA P G co tm H nx = .v v H' nx') : Acts P G a env H nx w o v H' nx' := by
  rw [ho] at hc
  simp only [cOp] at hc
  obtain ⟨x', hx, e⟩ := o1_some hc
  obtain ⟨y', hy, e⟩ := o1_some e
  obtain ⟨n, hn, e⟩ := o1_some e
  cases e
  simp only [heavyA] at h
  split at h
  · rename_i id off u e1 e2
    obtain ⟨L, r1, r2⟩ := opd_sound hg ht hx e1
    have ru := opd_sound hg ht hy e2
    cases hb : Nat.beq u.cells.len n <;> rw [hb] at h
    · cases h
    · simp only [cond_true] at h
      obtain ⟨h1, rfl, rfl⟩ := up_some h
      have hlen := ru.cells.len
      simp only [Array.length_toList] at hlen
      have hsz : (a.eval y).cells.size = n := by have := Nat.eq_of_beq_eq_true hb; omega
      obtain ⟨w', q1, q2, q3⟩ := wrAt_sound (P := P) hs r1 h1 ru.cells
      refine ⟨env, w', undef, .inr ⟨?_, rfl⟩, undef_VR env, q2, q3⟩
      simp only [execOp, ho, Instr.storeAt, r2, Instr.sureAddr, Sem.run_bind, Sem.run_pure, Result.andThen_ok, storeVar, sizeOf_run hn, hsz, ne_eq, not_true_eq_false, if_false, q1]
  · cases h
end Go.Ev
