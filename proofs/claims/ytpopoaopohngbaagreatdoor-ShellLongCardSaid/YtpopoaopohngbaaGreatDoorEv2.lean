/- An evaluator of the model, and why what it tells is so (part 2). No condition. -/
import Derived.Test.YtpopoaopohngbaaGreatDoorEv1
import Derived.Wp
import Derived.Laws.Sem
import GoSem.Dispatch
import Derived.Laws.Strings
import Derived.Laws.StructEq
set_option linter.unusedVariables false
set_option linter.unusedSimpArgs false
namespace Go.Ev

/-! ### rows by place -/
namespace E8
variable {α : Type}
noncomputable def A8 (i : Nat) : Ac (E8 α) α := k8 i Ac.mk
theorem k8_mk {R : Type} {i : Nat} (h : i < 8) (k : (E8 α → α) → (E8 α → α → E8 α) → R) : k8 i k = k (A8 i).get (A8 i).set := by
  rcases (by omega : i = 0 ∨ i = 1 ∨ i = 2 ∨ i = 3 ∨ i = 4 ∨ i = 5 ∨ i = 6 ∨ i = 7) with rfl | rfl | rfl | rfl | rfl | rfl | rfl | rfl <;> rfl
def Law {β α : Type} (A : Nat → Ac β α) (m : Nat) : Prop := ∀ i j, i < m → j < m → ∀ t x, (A j).get ((A i).set t x) = if j = i then x else (A j).get t
theorem law8 : Law (A8 (α := α)) 8 := by
  intro i j hi hj t x
  rcases (by omega : i = 0 ∨ i = 1 ∨ i = 2 ∨ i = 3 ∨ i = 4 ∨ i = 5 ∨ i = 6 ∨ i = 7) with rfl | rfl | rfl | rfl | rfl | rfl | rfl | rfl <;> rcases (by omega : j = 0 ∨ j = 1 ∨ j = 2 ∨ j = 3 ∨ j = 4 ∨ j = 5 ∨ j = 6 ∨ j = 7) with rfl | rfl | rfl | rfl | rfl | rfl | rfl | rfl <;> rfl
noncomputable def A64 (i : Nat) : Ac (F8 α) α := (A8 (i / 8)).then (A8 (i % 8))
theorem k64_mk {R : Type} {i : Nat} (h : i < 64) (k : (F8 α → α) → (F8 α → α → F8 α) → R) : k64 i k = k (A64 i).get (A64 i).set := by
  rcases (by omega : i = 0 ∨ i = 1 ∨ i = 2 ∨ i = 3 ∨ i = 4 ∨ i = 5 ∨ i = 6 ∨ i = 7 ∨ i = 8 ∨ i = 9 ∨ i = 10 ∨ i = 11 ∨ i = 12 ∨ i = 13 ∨ i = 14 ∨ i = 15 ∨ i = 16 ∨ i = 17 ∨ i = 18 ∨ i = 19 ∨ i = 20 ∨ i = 21 ∨ i = 22 ∨ i = 23 ∨ i = 24 ∨ i = 25 ∨ i = 26 ∨ i = 27 ∨ i = 28 ∨ i = 29 ∨ i = 30 ∨ i = 31 ∨ i = 32 ∨ i = 33 ∨ i = 34 ∨ i = 35 ∨ i = 36 ∨ i = 37 ∨ i = 38 ∨ i = 39 ∨ i = 40 ∨ i = 41 ∨ i = 42 ∨ i = 43 ∨ i = 44 ∨ i = 45 ∨ i = 46 ∨ i = 47 ∨ i = 48 ∨ i = 49 ∨ i = 50 ∨ i = 51 ∨ i = 52 ∨ i = 53 ∨ i = 54 ∨ i = 55 ∨ i = 56 ∨ i = 57 ∨ i = 58 ∨ i = 59 ∨ i = 60 ∨ i = 61 ∨ i = 62 ∨ i = 63) with rfl | rfl | rfl | rfl | rfl | rfl | rfl | rfl | rfl | rfl | rfl | rfl | rfl | rfl | rfl | rfl | rfl | rfl | rfl | rfl | rfl | rfl | rfl | rfl | rfl | rfl | rfl | rfl | rfl | rfl | rfl | rfl | rfl | rfl | rfl | rfl | rfl | rfl | rfl | rfl | rfl | rfl | rfl | rfl | rfl | rfl | rfl | rfl | rfl | rfl | rfl | rfl | rfl | rfl | rfl | rfl | rfl | rfl | rfl | rfl | rfl | rfl | rfl | rfl <;> rfl
theorem law_then {γ β α : Type} {A : Nat → Ac γ β} {B : Nat → Ac β α} {m n : Nat} (hA : Law A m) (hB : Law B n) : Law (fun i => (A (i / n)).then (B (i % n))) (m * n) := by
  intro i j hi hj t x
  have hn : 0 < n := by rcases Nat.eq_zero_or_pos n with e | e; subst e; simp at hi; exact e
  have hi1 : i / n < m := Nat.div_lt_of_lt_mul (by rw [Nat.mul_comm]; exact hi)
  have hj1 : j / n < m := Nat.div_lt_of_lt_mul (by rw [Nat.mul_comm]; exact hj)
  have hi2 : i % n < n := Nat.mod_lt _ hn
  have hj2 : j % n < n := Nat.mod_lt _ hn
  simp only [Ac.then]
  rw [hA _ _ hi1 hj1]
  by_cases e : j / n = i / n
  · rw [if_pos e, hB _ _ hi2 hj2]
    by_cases e2 : j % n = i % n
    · have : j = i := by rw [← Nat.div_add_mod j n, ← Nat.div_add_mod i n, e, e2]
      rw [if_pos e2, if_pos this]
    · have : ¬ j = i := fun q => e2 (by rw [q])
      rw [if_neg e2, if_neg this, e]
  · have : ¬ j = i := fun q => e (by rw [q])
    rw [if_neg e, if_neg this]
theorem law64 : Law (A64 (α := α)) 64 := law_then (m := 8) (n := 8) law8 law8
theorem sel8 {i : Nat} (h : i < 8) (s : Nat) (f : Nat → α) (n : Nat) : (A8 i).get (rep8 s f n) = f (n - i * s) := by
  rcases (by omega : i = 0 ∨ i = 1 ∨ i = 2 ∨ i = 3 ∨ i = 4 ∨ i = 5 ∨ i = 6 ∨ i = 7) with rfl | rfl | rfl | rfl | rfl | rfl | rfl | rfl
  · show f n = f (n - 0 * s); rw [Nat.zero_mul]; rfl
  · show f (n - s) = f (n - 1 * s); rw [Nat.one_mul]
  all_goals rfl
theorem sel64 {i : Nat} (h : i < 64) (s : Nat) (f : Nat → α) (n : Nat) : (A64 i).get (rep8 (8 * s) (rep8 s f) n) = f (n - i * s) := by
  show (A8 (i % 8)).get ((A8 (i / 8)).get _) = _
  rw [sel8 (by omega), sel8 (by omega)]
  congr 1
  have : i * s = (i / 8) * (8 * s) + (i % 8) * s := by
    have e : i = 8 * (i / 8) + i % 8 := by omega
    calc i * s = (8 * (i / 8) + i % 8) * s := by rw [← e]
      _ = _ := by rw [Nat.add_mul, Nat.mul_comm 8 (i / 8), Nat.mul_assoc]
  omega
theorem same8 {i : Nat} (h : i < 8) (x : α) : (A8 i).get (T.d8 x) = x := by
  rcases (by omega : i = 0 ∨ i = 1 ∨ i = 2 ∨ i = 3 ∨ i = 4 ∨ i = 5 ∨ i = 6 ∨ i = 7) with rfl | rfl | rfl | rfl | rfl | rfl | rfl | rfl <;> rfl
theorem same64 {i : Nat} (h : i < 64) (x : α) : (A64 i).get (T.d8 (T.d8 x)) = x := by
  show (A8 (i % 8)).get ((A8 (i / 8)).get _) = _
  rw [same8 (by omega), same8 (by omega)]
end E8

namespace T
open E8
variable {α : Type}
noncomputable def AL (i : Nat) : Ac (T α) (Option α) := ⟨fun t => (A64 i).get t.lo, fun t x => ⟨(A64 i).set t.lo x, t.mid, t.hi⟩⟩
noncomputable def AM2 (i : Nat) : Ac (F8 (F8 (Option α))) (Option α) := (A64 (i / 64)).then (A64 (i % 64))
noncomputable def AH3 (i : Nat) : Ac (F8 (F8 (F8 (Option α)))) (Option α) := ((A64 (i / 64 / 64)).then (A64 (i / 64 % 64))).then (A64 (i % 64))
noncomputable def AM (i : Nat) : Ac (T α) (Option α) := ⟨fun t => (AM2 i).get t.mid, fun t x => ⟨t.lo, (AM2 i).set t.mid x, t.hi⟩⟩
noncomputable def AH (i : Nat) : Ac (T α) (Option α) := ⟨fun t => (AH3 i).get t.hi, fun t x => ⟨t.lo, t.mid, (AH3 i).set t.hi x⟩⟩
noncomputable def AT (i : Nat) : Ac (T α) (Option α) := if i < 64 then AL i else if i < 4096 then AM i else AH i
theorem ble_t {i m : Nat} (h : i < m) : Nat.ble (Nat.succ i) m = true := Nat.ble_eq_true_of_le h
theorem ble_f {i m : Nat} (h : ¬ i < m) : Nat.ble (Nat.succ i) m = false := by
  cases e : Nat.ble (Nat.succ i) m with
  | false => rfl
  | true => exact absurd (Nat.le_of_ble_eq_true e) h
theorem acc_eq {i : Nat} (h : i < 262144) : acc α i = AT i := by
  have h2 : Nat.mod (Nat.div i 64) 64 < 64 := Nat.mod_lt _ (by omega)
  have h3 : Nat.mod i 64 < 64 := Nat.mod_lt _ (by omega)
  unfold acc AT
  by_cases hl : i < 64
  · rw [ble_t hl, if_pos hl]
    show accL α i = _
    unfold accL
    rw [k64_mk hl]
    rfl
  · rw [ble_f hl, if_neg hl]
    by_cases hm : i < 4096
    · rw [ble_t hm, if_pos hm]
      show accM α i = _
      have h1 : Nat.div i 64 < 64 := Nat.div_lt_of_lt_mul (by omega)
      unfold accM
      rw [k64_mk h1, k64_mk h3]
      rfl
    · rw [ble_f hm, if_neg hm]
      show accH α i = _
      have h1 : Nat.div i 4096 < 64 := Nat.div_lt_of_lt_mul (by omega)
      unfold accH
      rw [k64_mk h1, k64_mk h2, k64_mk h3]
      have e : i / 64 / 64 = Nat.div i 4096 := Nat.div_div_eq_div_mul i 64 64
      unfold AH AH3
      rw [e]
      rfl
theorem accN_eq (i : Nat) : accN α i = acc α i := by cases i <;> rfl
theorem lawM : Law (AM2 (α := α)) 4096 := law_then (m := 64) (n := 64) law64 law64
theorem lawH : Law (AH3 (α := α)) 262144 := law_then (m := 4096) (n := 64) (A := fun i => (A64 (i / 64)).then (A64 (i % 64))) (law_then (m := 64) (n := 64) law64 law64) law64
theorem lawT : Law (AT (α := α)) 262144 := by
  intro i j hi hj t x
  unfold AT
  by_cases h1 : i < 64
  · rw [if_pos h1]
    by_cases g1 : j < 64
    · rw [if_pos g1]
      exact law64 i j h1 g1 t.lo x
    · rw [if_neg g1, if_neg (show ¬ j = i by omega)]
      by_cases g2 : j < 4096
      · rw [if_pos g2]; rfl
      · rw [if_neg g2]; rfl
  · rw [if_neg h1]
    by_cases h2 : i < 4096
    · rw [if_pos h2]
      by_cases g1 : j < 64
      · rw [if_pos g1, if_neg (show ¬ j = i by omega)]; rfl
      · rw [if_neg g1]
        by_cases g2 : j < 4096
        · rw [if_pos g2]
          exact lawM i j h2 g2 t.mid x
        · rw [if_neg g2, if_neg (show ¬ j = i by omega)]; rfl
    · rw [if_neg h2]
      by_cases g1 : j < 64
      · rw [if_pos g1, if_neg (show ¬ j = i by omega)]; rfl
      · rw [if_neg g1]
        by_cases g2 : j < 4096
        · rw [if_pos g2, if_neg (show ¬ j = i by omega)]; rfl
        · rw [if_neg g2]
          exact lawH i j hi hj t.hi x
theorem get_in {t : T α} {i : Nat} (h : i < 262144) : t.get i = (AT i).get t := by
  unfold get
  have : Nat.ble (Nat.succ i) top = true := Nat.ble_eq_true_of_le (by show i + 1 ≤ 262144; omega)
  rw [this, accN_eq, acc_eq h]
theorem get_out {t : T α} {i : Nat} (h : 262144 ≤ i) : t.get i = none := by
  unfold get
  have : Nat.ble (Nat.succ i) top = false := by
    cases e : Nat.ble (Nat.succ i) top with
    | false => rfl
    | true => have : i + 1 ≤ 262144 := Nat.le_of_ble_eq_true e; omega
  rw [this]
theorem put_in {t t' : T α} {i : Nat} {x : α} (h : t.put i x = some t') : i < 262144 ∧ t' = (AT i).set t (some x) := by
  unfold put at h
  cases e : Nat.ble (Nat.succ i) top with
  | false => rw [e] at h; cases h
  | true =>
    have h1 : i < 262144 := Nat.le_of_ble_eq_true e
    rw [e, accN_eq, acc_eq h1] at h
    exact ⟨h1, (Option.some.inj h).symm⟩
theorem put_of {t : T α} {i : Nat} {x : α} (h : i < 262144) : ∃ t', t.put i x = some t' := by
  unfold put
  have : Nat.ble (Nat.succ i) top = true := Nat.ble_eq_true_of_le (by show i + 1 ≤ 262144; omega)
  rw [this]
  exact ⟨_, rfl⟩
@[simp] theorem get_e (i : Nat) : (T.e : T α).get i = none := by
  rcases Nat.lt_or_ge i 262144 with h | h
  · rw [get_in h]
    unfold AT
    split
    · show (A64 i).get (d8 (d8 none)) = none
      rw [same64 (by omega)]
    · split
      · show (A64 (i % 64)).get ((A64 (i / 64)).get (d8 (d8 (d8 (d8 none))))) = none
        rw [same64 (by omega), same64 (by omega)]
      · show (A64 (i % 64)).get ((A64 (i / 64 % 64)).get ((A64 (i / 64 / 64)).get (d8 (d8 (d8 (d8 (d8 (d8 none)))))))) = none
        rw [same64 (by omega), same64 (by omega), same64 (by omega)]
  · exact get_out h
theorem get_put {t t' : T α} {i : Nat} {x : α} (h : t.put i x = some t') (j : Nat) : t'.get j = if j = i then some x else t.get j := by
  obtain ⟨h1, rfl⟩ := put_in h
  rcases Nat.lt_or_ge j 262144 with hj | hj
  · rw [get_in hj, get_in hj, lawT i j h1 hj]
  · rw [get_out hj, get_out hj, if_neg (by omega)]
theorem get_put_same {t t' : T α} {i : Nat} {x : α} (h : t.put i x = some t') : t'.get i = some x := by rw [get_put h]; simp
theorem get_put_ne {t t' : T α} {i j : Nat} {x : α} (h : t.put i x = some t') (hn : j ≠ i) : t'.get j = t.get j := by rw [get_put h]; simp [hn]
theorem put_some {t : T α} {d : Nat} {u v : α} (h : t.get d = some u) : ∃ t', t.put d v = some t' := by
  rcases Nat.lt_or_ge d 262144 with hj | hj
  · exact put_of hj
  · rw [get_out hj] at h; cases h
theorem rep_get (x : α) (f n i : Nat) (h : i < 262144) : (rep x f n).get i = one x (n - i) := by
  rw [get_in h]
  unfold AT
  split
  · show (A64 i).get (rep8 (8 * 1) (rep8 1 (one x)) n) = _
    rw [sel64 (by omega)]
    congr 1
    omega
  · split
    · show (A64 (i % 64)).get ((A64 (i / 64)).get (rep8 (8 * 64) (rep8 64 (rep8 (8 * 1) (rep8 1 (one x)))) n)) = _
      rw [sel64 (by omega), sel64 (by omega)]
      congr 1
      omega
    · show (A64 (i % 64)).get ((A64 (i / 64 % 64)).get ((A64 (i / 64 / 64)).get (rep8 (8 * 4096) (rep8 4096 (rep8 (8 * 64) (rep8 64 (rep8 (8 * 1) (rep8 1 (one x)))))) n))) = _
      rw [sel64 (by omega), sel64 (by omega), sel64 (by omega)]
      congr 1
      omega
theorem get_rep (x : α) : ∀ (f n i : Nat) (v : α), (rep x f n).get i = some v → v = x ∧ i < n := by
  intro f n i v h
  rcases Nat.lt_or_ge i 262144 with hj | hj
  · rw [rep_get x f n i hj] at h
    cases e : n - i with
    | zero => rw [e] at h; cases h
    | succ m => rw [e] at h; cases h; exact ⟨rfl, by omega⟩
  · rw [get_out hj] at h; cases h
theorem get_rep_lt (x : α) : ∀ (f n i : Nat), i < 262144 → i < n → (rep x f n).get i = some x := by
  intro f n i hj h
  rw [rep_get x f n i hj]
  cases e : n - i with
  | zero => omega
  | succ m => rfl
end T

/-! ### where a block lies -/
structure Loc where
  b : Nat
  base : Nat
  lim : Nat
  sz : Nat

abbrev Env := Nat → Option Loc

mutual
/-- an abstract value stands for a value -/
def VR (env : Env) : AV → Value → Prop
  | .bool b, v => v = .bool b
  | .int k n, v => v = .int k n
  | .str l, v => ∃ s : ByteArray, v = .string s ∧ s.data.toList.map (·.toNat) = l
  | .nilPtr, v => v = .pointer none
  | .ptr id off, v => ∃ L, env id = some L ∧ v = .pointer (some ⟨L.b, L.base + off, none⟩)
  | .nilSl, v => v = .slice none 0 0
  | .sl id off len cap, v => ∃ L c, env id = some L ∧ v = .slice (some ⟨L.b, L.base + off, none⟩) len c ∧ (match cap with | some k => c = k | none => off + c * L.sz = L.lim)
  | .slE, v => ∃ a c, v = .slice (some a) 0 c
  | .nilMap, v => v = .map none
  | .map id, v => ∃ L, env id = some L ∧ v = .map (some L.b)
  | .fn f a c, v => ∃ x y, v = .func f x y ∧ VL env a x.toList ∧ VL env c y.toList
  | .nilFn, v => v = .nilFunc
  | .iface t x, v => ∃ y, v = .iface t y ∧ VR env x y
  | .nilIface, v => v = .nilIface
  | .agg l, v => ∃ x, v = .agg x ∧ VL env l x.toList
  | .tup l, v => ∃ x, v = .tuple x ∧ VL env l x.toList
  | .unk, v => v.oneCell = true
  | .rng lo hi, v => ∃ n : Int, v = .int .i64 n ∧ (∀ l, lo = some l → l ≤ n) ∧ (∀ h, hi = some h → n ≤ h)
  | .rs k m r, v => ∃ n : Nat, v = .int k n ∧ (if m < 512 then n % m = r else n &&& (m - 512) = r) ∧ n < 256
  | .nil, _ => False
  | .cons _ _, _ => False
termination_by structural x => x
def VL (env : Env) : AV → List Value → Prop
  | .nil, l => l = []
  | .cons h t, l => ∃ x xs, l = x :: xs ∧ VR env h x ∧ VL env t xs
  | _, _ => False
termination_by structural x => x
end

def Le (env env' : Env) : Prop := ∀ id L, env id = some L → env' id = some L
theorem Le.refl (env : Env) : Le env env := fun _ _ h => h
theorem Le.trans {a b c : Env} (h : Le a b) (h' : Le b c) : Le a c := fun id L e => h' id L (h id L e)

theorem VR.mono {env env' : Env} (h : Le env env') : ∀ x, (∀ v, VR env x v → VR env' x v) ∧ (∀ l, VL env x l → VL env' x l) := by
  intro x
  induction x with
  | ptr id off => exact ⟨fun v ⟨L, a, b⟩ => ⟨L, h _ _ a, b⟩, fun l hl => by simp [VL] at hl⟩
  | sl id off len cap => exact ⟨fun v ⟨L, c, a, b, d⟩ => ⟨L, c, h _ _ a, b, d⟩, fun l hl => by simp [VL] at hl⟩
  | map id => exact ⟨fun v ⟨L, a, b⟩ => ⟨L, h _ _ a, b⟩, fun l hl => by simp [VL] at hl⟩
  | fn f a c iha ihc => exact ⟨fun v ⟨x, y, e, ha, hc⟩ => ⟨x, y, e, iha.2 _ ha, ihc.2 _ hc⟩, fun l hl => by simp [VL] at hl⟩
  | iface t x ih => exact ⟨fun v ⟨y, e, hy⟩ => ⟨y, e, ih.1 _ hy⟩, fun l hl => by simp [VL] at hl⟩
  | agg l ih => exact ⟨fun v ⟨y, e, hy⟩ => ⟨y, e, ih.2 _ hy⟩, fun l hl => by simp [VL] at hl⟩
  | tup l ih => exact ⟨fun v ⟨y, e, hy⟩ => ⟨y, e, ih.2 _ hy⟩, fun l hl => by simp [VL] at hl⟩
  | cons a b iha ihb => exact ⟨fun v hv => hv.elim, fun l ⟨x, xs, e, hx, hxs⟩ => ⟨x, xs, e, iha.1 _ hx, ihb.2 _ hxs⟩⟩
  | _ => exact ⟨fun v hv => hv, fun l hl => hl⟩
theorem VR.ext {env env' : Env} (h : Le env env') {x : AV} {v : Value} (hv : VR env x v) : VR env' x v := (VR.mono h x).1 v hv
theorem VL.ext {env env' : Env} (h : Le env env') {x : AV} {l : List Value} (hv : VL env x l) : VL env' x l := (VR.mono h x).2 l hv

theorem VL.len {env : Env} {x : AV} : ∀ {l : List Value}, VL env x l → x.len = l.length := by
  induction x with
  | cons a b _ ihb => rintro l ⟨x, xs, rfl, _, h⟩; show Nat.succ b.len = _; rw [ihb h]; rfl
  | nil => rintro l rfl; rfl
  | _ => intro l h; exact h.elim
theorem VL.app {env : Env} {x y : AV} : ∀ {l m : List Value}, VL env x l → VL env y m → VL env (x.app y) (l ++ m) := by
  induction x with
  | cons a b _ ihb => rintro l m ⟨x, xs, rfl, hx, h⟩ hm; exact ⟨x, xs ++ m, rfl, hx, ihb h hm⟩
  | nil => rintro l m rfl hm; exact hm
  | _ => intro l m h; exact h.elim
theorem VL.nth {env : Env} {x : AV} : ∀ {l : List Value} {i : Nat} {v : AV}, VL env x l → x.nth i = some v → ∃ c, l[i]? = some c ∧ VR env v c := by
  induction x with
  | cons a b _ ihb =>
    rintro l i v ⟨x, xs, rfl, hx, h⟩ hi
    cases i with
    | zero => simp [AV.nth] at hi; subst hi; exact ⟨x, rfl, hx⟩
    | succ i => simp [AV.nth] at hi; obtain ⟨c, hc, hv⟩ := ihb h hi; exact ⟨c, by simpa using hc, hv⟩
  | nil => rintro l i v rfl hi; simp [AV.nth] at hi
  | _ => intro l i v h; exact h.elim
theorem VL.part0 {env : Env} {x : AV} : ∀ {l : List Value} {n : Nat} {v : AV}, VL env x l → x.part 0 n = some v → n ≤ l.length ∧ VL env v (l.take n) := by
  induction x with
  | cons a b _ ihb =>
    rintro l n v ⟨x, xs, rfl, hx, h⟩ hi
    cases n with
    | zero => simp [AV.part] at hi; subst hi; simp [VL]
    | succ n =>
      simp only [AV.part] at hi
      split at hi
      · rename_i w hw
        cases hi
        obtain ⟨h1, h2⟩ := ihb h hw
        exact ⟨by simpa using h1, ⟨x, xs.take n, by simp, hx, h2⟩⟩
      · cases hi
  | nil => rintro l n v rfl hi; cases n with | zero => simp [AV.part] at hi; subst hi; simp [VL] | succ n => simp [AV.part] at hi
  | _ => intro l n v h; exact h.elim
theorem VL.part {env : Env} {x : AV} : ∀ {l : List Value} {i n : Nat} {v : AV}, VL env x l → x.part i n = some v → (n = 0 ∨ i + n ≤ l.length) ∧ VL env v ((l.drop i).take n) := by
  induction x with
  | cons a b _ ihb =>
    rintro l i n v ⟨x, xs, rfl, hx, h⟩ hi
    cases n with
    | zero => have : v = .nil := by cases i <;> simpa [AV.part, eq_comm] using hi
              subst this; simp [VL]
    | succ n =>
      cases i with
      | zero => have := VL.part0 (x := .cons a b) ⟨x, xs, rfl, hx, h⟩ hi; exact ⟨.inr (by simpa using this.1), by simpa using this.2⟩
      | succ i =>
        simp only [AV.part] at hi
        obtain ⟨h1, h2⟩ := ihb h hi
        refine ⟨.inr ?_, by simpa using h2⟩
        rcases h1 with h1 | h1
        · omega
        · simp; omega
  | nil =>
    rintro l i n v rfl hi
    cases n with
    | zero => have : v = .nil := by cases i <;> simpa [AV.part, eq_comm] using hi
              subst this; simp [VL]
    | succ n => cases i <;> simp [AV.part] at hi
  | _ => intro l i n v h; exact h.elim
theorem VR.cells {env : Env} {x : AV} {v : Value} (h : VR env x v) : VL env x.cells v.cells.toList := by
  cases x with
  | agg l => obtain ⟨y, rfl, hy⟩ := h; exact hy
  | nil => exact h.elim
  | cons a b => exact h.elim
  | unk =>
    have : v.cells = #[v] := by cases v <;> first | rfl | (simp [VR, Value.oneCell] at h)
    rw [this]
    exact ⟨v, [], rfl, h, rfl⟩
  | _ => 
    have : v.cells = #[v] := by
      simp only [VR] at h
      first
        | (subst h; rfl)
        | (obtain ⟨_, rfl, _⟩ := h; rfl)
        | (obtain ⟨_, _, rfl⟩ := h; rfl)
        | (obtain ⟨_, _, _, rfl, _⟩ := h; rfl)
        | (obtain ⟨_, _, rfl⟩ := h; rfl)
        | (obtain ⟨_, _, rfl, _⟩ := h; rfl)
    rw [this]
    exact ⟨v, [], rfl, h, rfl⟩

/-! ### memory -/
def AO.live : AO → Bool
  | .dead => false
  | _ => true

def MR (env : Env) : List Ent → List MapEntry → Prop
  | [], l => l = []
  | e :: es, l => ∃ m ms, l = m :: ms ∧ VR env e.key m.key ∧ VR env e.val m.val ∧ e.born = m.born ∧ MR env es ms

def OR (env : Env) (L : Loc) : AO → Obj → Prop
  | .cells c n sz e, ob => ∃ arr fr, ob = .cells arr e fr ∧ L.base + n ≤ arr.size ∧ (sz = 0 → L.base = 0 ∧ n = arr.size) ∧ (sz ≠ 0 → L.sz = sz ∧ L.base + L.lim = arr.size) ∧
      (∀ i v, c.get i = some v → i < n ∧ ∃ x, arr[L.base + i]? = some x ∧ VR env v x) ∧ (∀ k, k < arr.size → ¬ (fr.1 ≤ k ∧ k < fr.2))
  | .map es clock, ob => L.base = 0 ∧ ∃ arr, ob = .map arr clock ∧ MR env es arr.toList
  | .iter m since seen st, ob => L.base = 0 ∧ ∃ m', ob = .mapIter m' since seen.toArray st ∧ (match m with | none => m' = none | some id => ∃ K, env id = some K ∧ m' = some K.b)
  | .siter l pos, ob => L.base = 0 ∧ ∃ s : ByteArray, ob = .stringIter s pos ∧ s.data.toList.map (·.toNat) = l
  | .dead, _ => True

theorem MR.ext {env env' : Env} (h : Le env env') : ∀ {es : List Ent} {l : List MapEntry}, MR env es l → MR env' es l
  | [], _, e => e
  | _ :: _, _, ⟨m, ms, e, a, b, c, d⟩ => ⟨m, ms, e, a.ext h, b.ext h, c, MR.ext h d⟩

theorem OR.ext {env env' : Env} (h : Le env env') {L : Loc} : ∀ {o : AO} {ob : Obj}, OR env L o ob → OR env' L o ob
  | .cells .., _, ⟨arr, fr, e, a, b, b', c, d⟩ => ⟨arr, fr, e, a, b, b', fun i v hv => let ⟨x, y, z, t⟩ := c i v hv; ⟨x, y, z, t.ext h⟩, d⟩
  | .map .., _, ⟨z, arr, e, m⟩ => ⟨z, arr, e, m.ext h⟩
  | .iter none .., _, ⟨z, m', e, q⟩ => ⟨z, m', e, q⟩
  | .iter (some _) .., _, ⟨z, m', e, K, q, r⟩ => ⟨z, m', e, K, h _ _ q, r⟩
  | .siter .., _, x => x
  | .dead, _, _ => trivial

structure SR (env : Env) (H : Hp) (nx : Nat) (w : World) : Prop where
  obj : ∀ id L o, env id = some L → H.get id = some o → ∃ ob, w.heap[L.b]? = some ob ∧ OR env L o ob
  bnd : ∀ id L, env id = some L → L.b < w.heap.size ∧ id < nx
  inj : ∀ id id' L L' o o', env id = some L → env id' = some L' → H.get id = some o → H.get id' = some o' → o.live = true → o'.live = true → L.b = L'.b → id = id'
  top : ∀ id, nx ≤ id → H.get id = none

structure Tr (G : Nat) (env : Env) (H : Hp) (nx : Nat) (w : World) (env' : Env) (H' : Hp) (nx' : Nat) (w' : World) : Prop where
  le : Le env env'
  nxle : nx ≤ nx'
  news : ∀ id L, env' id = some L → env id = some L ∨ (nx ≤ id ∧ (w.heap.size ≤ L.b ∨ ∃ id0 L0, G ≤ id0 ∧ env id0 = some L0 ∧ L0.b = L.b))
  un : ∀ id, id < nx → env id = none → H'.get id = H.get id
  size : w.heap.size ≤ w'.heap.size
  frame : ∀ b, b < w.heap.size → (∀ id L, G ≤ id → env id = some L → L.b ≠ b) → w'.heap[b]? = w.heap[b]?
  os : w'.os = w.os
  tape : w'.tape = w.tape
  output : w'.output = w.output

theorem Tr.refl (G : Nat) (env : Env) (H : Hp) (nx : Nat) (w : World) : Tr G env H nx w env H nx w :=
  ⟨Le.refl _, Nat.le_refl _, fun _ _ h => .inl h, fun _ _ _ => rfl, Nat.le_refl _, fun _ _ _ => rfl, rfl, rfl, rfl⟩

theorem Tr.trans {G : Nat} {e0 e1 e2 : Env} {H0 H1 H2 : Hp} {n0 n1 n2 : Nat} {w0 w1 w2 : World} (h : Tr G e0 H0 n0 w0 e1 H1 n1 w1) (k : Tr G e1 H1 n1 w1 e2 H2 n2 w2) : Tr G e0 H0 n0 w0 e2 H2 n2 w2 where
  le := h.le.trans k.le
  nxle := Nat.le_trans h.nxle k.nxle
  news := fun id L hL => by
    rcases k.news id L hL with a | ⟨a, b⟩
    · exact h.news id L a
    · refine .inr ⟨Nat.le_trans h.nxle a, ?_⟩
      rcases b with b | ⟨id0, L0, g, e, f⟩
      · exact .inl (Nat.le_trans h.size b)
      · rcases h.news id0 L0 e with c | ⟨_, c⟩
        · exact .inr ⟨id0, L0, g, c, f⟩
        · rcases c with c | ⟨id1, L1, g1, e1, f1⟩
          · exact .inl (f ▸ c)
          · exact .inr ⟨id1, L1, g1, e1, f1.trans f⟩
  un := fun id hid he => by
    rw [k.un id (Nat.lt_of_lt_of_le hid h.nxle), h.un id hid he]
    cases e : e1 id with
    | none => rfl
    | some L => rcases h.news id L e with a | ⟨a, _⟩
                · rw [he] at a; cases a
                · omega
  size := Nat.le_trans h.size k.size
  frame := fun b hb hn => by
    rw [k.frame b (Nat.lt_of_lt_of_le hb h.size), h.frame b hb hn]
    intro id L g e
    rcases h.news id L e with a | ⟨_, a⟩
    · exact hn id L g a
    · rcases a with a | ⟨id0, L0, g0, e0, f0⟩
      · omega
      · rw [← f0]; exact hn id0 L0 g0 e0
  os := k.os.trans h.os
  tape := k.tape.trans h.tape
  output := k.output.trans h.output

/-- a block is made -/
theorem SR.new {G : Nat} {env : Env} {H H' : Hp} {nx : Nat} {w w' : World} (h : SR env H nx w) {o : AO} {ob : Obj} (L : Loc) (hL : L.b = w.heap.size) (hp : H.put nx o = some H')
    (hw : w'.heap = w.heap.push ob) (h1 : w'.os = w.os) (h2 : w'.tape = w.tape) (h3 : w'.output = w.output) (ho : ∀ env', Le env env' → env' nx = some L → OR env' L o ob) :
    ∃ env', env' nx = some L ∧ SR env' H' (nx + 1) w' ∧ Tr G env H nx w env' H' (nx + 1) w' ∧ (∀ id, id ≠ nx → env' id = env id) := by
  have hnone : env nx = none := by cases e : env nx with | none => rfl | some K => have := (h.bnd nx K e).2; omega
  have hle : Le env (fun i => if i = nx then some L else env i) := fun id K hK => by
    have : id ≠ nx := fun e => by subst e; rw [hnone] at hK; cases hK
    simp [this, hK]
  refine ⟨fun i => if i = nx then some L else env i, by simp, ⟨?_, ?_, ?_, ?_⟩, ⟨hle, by omega, ?_, ?_, ?_, ?_, h1, h2, h3⟩, fun id hid => by simp [hid]⟩
  · intro id K q he hq
    by_cases e : id = nx
    · subst e
      simp at he; subst he
      rw [T.get_put_same hp] at hq; cases hq
      exact ⟨ob, by rw [hw, hL]; simp, ho _ hle (by simp)⟩
    · simp [e] at he
      rw [T.get_put_ne hp e] at hq
      obtain ⟨ob', a, b⟩ := h.obj id K q he hq
      refine ⟨ob', ?_, b.ext hle⟩
      rw [hw, Array.getElem?_push, if_neg (by have := (h.bnd id K he).1; omega), a]
  · intro id K he
    by_cases e : id = nx
    · subst e; simp at he; subst he; exact ⟨by rw [hw, hL]; simp, by omega⟩
    · simp [e] at he; have := h.bnd id K he; exact ⟨by rw [hw]; simp; omega, by omega⟩
  · intro id id' K K' q q' he he' hq hq' lq lq' hb
    by_cases e : id = nx
    · by_cases e' : id' = nx
      · rw [e, e']
      · simp [e] at he; simp [e'] at he'; have := (h.bnd id' K' he').1; subst he; omega
    · simp [e] at he
      by_cases e' : id' = nx
      · simp [e'] at he'; have := (h.bnd id K he).1; subst he'; omega
      · simp [e'] at he'
        rw [T.get_put_ne hp e] at hq; rw [T.get_put_ne hp e'] at hq'
        exact h.inj id id' K K' q q' he he' hq hq' lq lq' hb
  · intro id hid
    rw [T.get_put_ne hp (by omega)]; exact h.top id (by omega)
  · intro id K he
    by_cases e : id = nx
    · subst e; simp at he; subst he; exact .inr ⟨Nat.le_refl _, .inl (by omega)⟩
    · simp [e] at he; exact .inl he
  · intro id hid _; rw [T.get_put_ne hp (by omega)]
  · rw [hw]; simp
  · intro b hb _; rw [hw, Array.getElem?_push, if_neg (by omega)]

/-- a block that is there is turned -/
theorem SR.turn {G : Nat} {env : Env} {H H' : Hp} {nx : Nat} {w w' : World} (h : SR env H nx w) {id : Nat} {L : Loc} {o o' : AO} {ob : Obj} (he : env id = some L) (hG : G ≤ id) (hq : H.get id = some o) (hlive : o.live = true)
    (hp : H.put id o' = some H') (hw : ∀ b, b ≠ L.b → w'.heap[b]? = w.heap[b]?) (hb : w'.heap[L.b]? = some ob) (hs : w'.heap.size = w.heap.size) (h1 : w'.os = w.os) (h2 : w'.tape = w.tape) (h3 : w'.output = w.output)
    (ho : OR env L o' ob) : SR env H' nx w' ∧ Tr G env H nx w env H' nx w' := by
  have hlt := (h.bnd id L he).2
  refine ⟨⟨?_, ?_, ?_, ?_⟩, ⟨Le.refl _, Nat.le_refl _, fun _ _ e => .inl e, ?_, by omega, ?_, h1, h2, h3⟩⟩
  · intro j K q hK hq'
    by_cases e : j = id
    · subst e; rw [he] at hK; cases hK; rw [T.get_put_same hp] at hq'; cases hq'; exact ⟨ob, hb, ho⟩
    · rw [T.get_put_ne hp e] at hq'
      obtain ⟨ob', a, b⟩ := h.obj j K q hK hq'
      by_cases hl : q.live = true
      · refine ⟨ob', ?_, b⟩
        rw [hw _ ?_, a]
        intro hbb
        exact e (h.inj j id K L q o hK he hq' hq hl hlive hbb)
      · cases q <;> simp [AO.live] at hl
        by_cases hbb : K.b = L.b
        · exact ⟨ob, by rw [hbb]; exact hb, trivial⟩
        · exact ⟨ob', by rw [hw _ hbb, a], trivial⟩
  · intro j K hK; have := h.bnd j K hK; exact ⟨by omega, this.2⟩
  · intro j j' K K' q q' hK hK' hq1 hq2 l1 l2 hbb
    have key : ∀ i x, H'.get i = some x → x.live = true → ∃ y, H.get i = some y ∧ y.live = true := by
      intro i x hx hl
      by_cases e : i = id
      · subst e; exact ⟨o, hq, hlive⟩
      · rw [T.get_put_ne hp e] at hx; exact ⟨x, hx, hl⟩
    obtain ⟨y, a, b⟩ := key _ _ hq1 l1
    obtain ⟨y', a', b'⟩ := key _ _ hq2 l2
    exact h.inj j j' K K' y y' hK hK' a a' b b' hbb
  · intro j hj; rw [T.get_put_ne hp (by omega)]; exact h.top j hj
  · intro j hj hn
    have : j ≠ id := fun e => by subst e; rw [he] at hn; cases hn
    rw [T.get_put_ne hp this]
  · intro b _ hn; exact hw b (fun e => hn id L hG he e.symm)

/-- a row is given up: it may be any -/
theorem SR.kill {G : Nat} {env : Env} {H H' : Hp} {nx : Nat} {w : World} (h : SR env H nx w) {id : Nat} {o : AO} (hq : H.get id = some o) (hne : ∃ L, env id = some L) (hp : H.put id .dead = some H') : SR env H' nx w ∧ Tr G env H nx w env H' nx w := by
  have hlt : id < nx := by rcases Nat.lt_or_ge id nx with a | a; exact a; rw [h.top id a] at hq; cases hq
  obtain ⟨L0, hL0⟩ := hne
  refine ⟨⟨?_, h.bnd, ?_, ?_⟩, ⟨Le.refl _, Nat.le_refl _, fun _ _ e => .inl e, ?_, Nat.le_refl _, fun _ _ _ => rfl, rfl, rfl, rfl⟩⟩
  · intro j K q hK hq'
    by_cases e : j = id
    · subst e; rw [T.get_put_same hp] at hq'; cases hq'
      obtain ⟨ob, a, _⟩ := h.obj j K o hK hq
      exact ⟨ob, a, trivial⟩
    · rw [T.get_put_ne hp e] at hq'; exact h.obj j K q hK hq'
  · intro j j' K K' q q' hK hK' hq1 hq2 l1 l2 hbb
    have n1 : j ≠ id := fun e => by subst e; rw [T.get_put_same hp] at hq1; cases hq1; cases l1
    have n2 : j' ≠ id := fun e => by subst e; rw [T.get_put_same hp] at hq2; cases hq2; cases l2
    rw [T.get_put_ne hp n1] at hq1; rw [T.get_put_ne hp n2] at hq2
    exact h.inj j j' K K' q q' hK hK' hq1 hq2 l1 l2 hbb
  · intro j hj; rw [T.get_put_ne hp (by omega)]; exact h.top j hj
  · intro j hj hn
    have : j ≠ id := fun e => by subst e; rw [hL0] at hn; cases hn
    rw [T.get_put_ne hp this]
end Go.Ev

namespace Go.Ev
variable {P : Program} {G N : Nat}
theorem treeOf_get : ∀ {l : List TypeInfo} {i : Nat} {t t' : T TypeInfo}, treeOf l i t = some t' → ∀ j, t'.get j = if i ≤ j ∧ j < i + l.length then l[j - i]? else t.get j
  | [], i, t, t', h, j => by cases h; simp; omega
  | o :: l, i, t, t', h, j => by
    simp only [treeOf] at h
    split at h
    · rename_i H1 h1
      rw [treeOf_get h j, T.get_put h1]
      simp only [List.length_cons, Nat.succ_eq_add_one]
      by_cases e : j = i
      · subst e; simp; omega
      · by_cases e2 : i + 1 ≤ j ∧ j < i + 1 + l.length
        · have e3 : i ≤ j ∧ j < i + (l.length + 1) := by omega
          rw [if_pos e2, if_pos e3, show j - i = (j - (i + 1)) + 1 by omega, List.getElem?_cons_succ]
        · have e3 : ¬ (i ≤ j ∧ j < i + (l.length + 1)) := by omega
          rw [if_neg e2, if_neg e3, if_neg e]
    · cases h
theorem infoF_eq (P : Program) (t : Nat) : infoF P t = P.info? t := by
  unfold infoF
  cases h : (tyTree P).get t with
  | none => rfl
  | some i =>
    show some i = P.info? t
    have key : P.types[t]? = some i := by
      unfold tyTree at h
      split at h
      · rename_i t' ht
        rw [treeOf_get ht t] at h
        split at h
        · simpa using h
        · simp at h
      · simp at h
    have hlt : t < P.types.size := (Array.getElem?_eq_some_iff.1 key).1
    show some i = Tables.info? P.toTables t
    unfold Tables.info?
    rw [if_pos hlt]
    exact key.symm
theorem treeFn_get : ∀ {l : List Func} {i : Nat} {t t' : T Func}, treeFn l i t = some t' → ∀ j, t'.get j = if i ≤ j ∧ j < i + l.length then l[j - i]? else t.get j
  | [], i, t, t', h, j => by cases h; simp; omega
  | o :: l, i, t, t', h, j => by
    simp only [treeFn] at h
    split at h
    · rename_i H1 h1
      rw [treeFn_get h j, T.get_put h1]
      simp only [List.length_cons, Nat.succ_eq_add_one]
      by_cases e : j = i
      · subst e; simp; omega
      · by_cases e2 : i + 1 ≤ j ∧ j < i + 1 + l.length
        · have e3 : i ≤ j ∧ j < i + (l.length + 1) := by omega
          rw [if_pos e2, if_pos e3, show j - i = (j - (i + 1)) + 1 by omega, List.getElem?_cons_succ]
        · have e3 : ¬ (i ≤ j ∧ j < i + (l.length + 1)) := by omega
          rw [if_neg e2, if_neg e3, if_neg e]
    · cases h
theorem fnF_eq (P : Program) (f : Nat) : fnF P f = P.funcs[f]? := by
  unfold fnF
  cases h : (fnTree P).get f with
  | none => rfl
  | some i =>
    show some i = P.funcs[f]?
    unfold fnTree at h
    split at h
    · rename_i t' ht
      rw [treeFn_get ht f] at h
      split at h
      · symm; simpa using h
      · simp at h
    · simp at h
theorem undF_eq (P : Program) (t : Nat) : undF P t = P.underlying t := by
  unfold undF Program.underlying
  rw [infoF_eq]
  cases P.info? t with
  | none => rfl
  | some i =>
    obtain ⟨d⟩ := i
    cases d with
    | named n u => simp only [infoF_eq]; cases P.info? u <;> rfl
    | _ => rfl
theorem tySizeY_eq : @tySizeY = @tySize := by funext P t; simp only [tySizeY, tySize, infoF_eq]
theorem tyAggY_eq : @tyAggY = @tyAgg := by funext P t; simp only [tyAggY, tyAgg, undF_eq]
theorem tyZeroY_eq : @tyZeroY = @tyZero := by funext P t; simp only [tyZeroY, tyZero, infoF_eq]
theorem smallBytesY_eq : @smallBytesY = @smallBytes := by funext P t; simp only [smallBytesY, smallBytes, infoF_eq]
theorem tyZeroCY_eq : @tyZeroCY = @tyZeroC := by funext P t; simp only [tyZeroCY, tyZeroC, tyZeroY_eq]
theorem tyFieldY_eq : @tyFieldY = @tyField := by funext P t f; simp only [tyFieldY, tyField, undF_eq]
theorem tySliceY_eq : @tySliceY = @tySlice := by funext P t; simp only [tySliceY, tySlice, undF_eq, tySizeY_eq]
theorem tyArrY_eq : @tyArrY = @tyArr := by funext P t; simp only [tyArrY, tyArr, undF_eq, tySizeY_eq]
theorem sizedY_eq : @sizedY = @sized := by
  funext P l; induction l with
  | nil => rfl
  | cons f l ih => simp only [sizedY, sized, tySizeY_eq, ih]
theorem partsSY_eq : @partsSY = @partsS := by
  funext P G t l; induction l with
  | nil => rfl
  | cons f l ih => obtain ⟨i, x⟩ := f; simp only [partsSY, partsS, tySizeY_eq, tyFieldY_eq, ih]
theorem partsAY_eq : @partsAY = @partsA := by
  funext G s l; induction l with
  | nil => rfl
  | cons f l ih => obtain ⟨i, x⟩ := f; simp only [partsAY, partsA, ih]
theorem eqSOfY_eq : @eqSOfY = @eqSOf := by funext P t; simp only [eqSOfY, eqSOf, undF_eq, tySizeY_eq]
theorem eqFieldsY_eq : @eqFieldsY = @eqFields := by
  funext P l; induction l with
  | nil => rfl
  | cons f l ih => simp only [eqFieldsY, eqFields, eqSOfY_eq, ih]
theorem eqKOfY_eq : @eqKOfY = @eqKOf := by funext P t c; simp only [eqKOfY, eqKOf, undF_eq, eqSOfY_eq, eqFieldsY_eq]
theorem keyKindY_eq : @keyKindY = @keyKind := by funext P t; simp only [keyKindY, keyKind, undF_eq]
theorem mapKindY_eq : @mapKindY = @mapKind := by funext P t; simp only [mapKindY, mapKind, undF_eq, keyKindY_eq]
theorem cConvertY_eq : @cConvertY = @cConvert := by funext P s d x; simp only [cConvertY, cConvert, undF_eq, tySizeY_eq]
theorem cBuiltinY_eq : @cBuiltinY = @cBuiltin := by funext P b ts xs; simp only [cBuiltinY, cBuiltin, undF_eq, tySizeY_eq, tySliceY_eq, tyZeroCY_eq, smallBytesY_eq, mapKindY_eq]
theorem cOpY_eq : @cOpY = @cOp := by
  funext P G op
  cases op <;> simp only [cOpY, cOp, undF_eq, tySizeY_eq, tyAggY_eq, tyZeroY_eq, smallBytesY_eq, tyZeroCY_eq, tyFieldY_eq, tySliceY_eq, tyArrY_eq, sizedY_eq, partsSY_eq, partsAY_eq, eqKOfY_eq, keyKindY_eq, mapKindY_eq, cConvertY_eq, cBuiltinY_eq] <;> rfl
theorem oB_eq {α β : Type} : @oB α β = @o1 α β := by funext x f; cases x <;> rfl
theorem constK_eq (v : Value) : constK v = vk_any v := by cases v <;> rfl
theorem opdK_eq : @opdK = @opdOf := by
  funext G x
  cases x with
  | const v => show constK v = _; rw [constK_eq]; rfl
  | _ => rfl
theorem opdsK_eq : @opdsK = @opdsOf := by
  funext G l
  induction l with
  | nil => rfl
  | cons x l ih =>
    show consK (opdK G x) (opdsK G l) = _
    rw [ih, opdK_eq]
    unfold consK
    rw [oB_eq, oB_eq]
    simp only [opdsOf]
    cases opdOf G x <;> cases opdsOf G l <;> rfl
theorem cOpK_eq : @cOpK = @cOpY := by
  funext P G op
  cases op <;> simp only [cOpK, q_move, q_assign, q_pick, q_alloc, q_box, q_build, q_buildSlice, q_insert, q_load, q_store, q_ready, q_waits, q_nilCheck, q_binOp, q_unOp, q_convert, q_sliceToArrayPointer, q_makeInterface, q_makeFunc, q_makeMap, q_makeChan, q_makeSlice, q_slice, q_fieldAddr, q_field, q_indexAddr, q_index, q_lookup, q_mapUpdate, q_mapEntry, q_entryStore, q_range, q_next, q_entry, q_typeAssert, q_extract, q_call, q_go, q_defer, q_panic, q_send, q_recv, q_select, kOp_move, kOp_pick, kOp_alloc, kOp_box, kOp_build, kOp_buildSlice, kOp_load, kOp_store, kOp_nilCheck, kOp_binOp, kOp_unOp, kOp_convert, kOp_makeInterface, kOp_makeFunc, kOp_makeMap, kOp_makeSlice, kOp_slice, kOp_fieldAddr, kOp_field, kOp_indexAddr, kOp_index, kOp_lookup, kOp_mapUpdate, kOp_range, kOp_next, kOp_typeAssert, kOp_extract, kOp_call, kOp_defer, opdK_eq, opdsK_eq, oB_eq] <;> rfl
theorem kindK_eq : kindK = kind := by funext c; cases c <;> rfl
theorem cGuardK_eq (ops : Array Oper) (g : Option (Nat × Bool)) : cGuardK ops g = cGuard ops g := by cases g <;> rfl
theorem cOperK_eq : @cOperK = @cOper := by
  funext P G N ops o
  simp only [cOperK, cOper, cOpK_eq, cOpY_eq, cGuardK_eq, oB_eq]
  cases cOp P G o.op with
  | none => rfl
  | some co =>
    show o1 (cGuard ops o.guard) _ = _
    cases cGuard ops o.guard with
    | none => rfl
    | some g =>
      show dstK N o.dst g co = _
      unfold dstK
      rw [kindK_eq]
      cases o.dst with
      | none => rfl
      | some d =>
        show (Bool.rec none _ (Nat.blt d N) : Option CE) = bif Nat.blt d N then _ else none
        cases Nat.blt d N <;> rfl
theorem cOpersK_eq : @cOpersK = @cOpers := by
  funext P G N ops l
  induction l with
  | nil => rfl
  | cons o l ih =>
    show consK (cOperK P G N ops o) (cOpersK P G N ops l) = _
    rw [ih, cOperK_eq]
    unfold consK
    rw [oB_eq, oB_eq]
    simp only [cOpers]
    cases cOper P G N ops o <;> cases cOpers P G N ops l <;> rfl
theorem cDrawK_eq : @cDrawK = @cDraw := by
  funext P G N ops
  unfold cDrawK cDraw
  rw [cOpersK_eq, oB_eq]
  cases cOpers P G N ops ops.toList <;> rfl
theorem cCodeK_eq : @cCodeK = @cCode := by
  funext P G N c
  induction c with
  | region id ops draw =>
    show cc_region id ops draw P G N = _
    unfold cc_region
    rw [cOpersK_eq, cDrawK_eq]
    cases draw
    · show opsC (cOpers P G N ops ops.toList) = (match cOpers P G N ops ops.toList with | some l => CC.ops l | none => .bad)
      cases cOpers P G N ops ops.toList <;> rfl
    · show opsC (cDraw P G N ops) = (match cDraw P G N ops with | some l => CC.ops l | none => .bad)
      cases cDraw P G N ops <;> rfl
  | cond c a b iha ihb =>
    show (Option.rec .bad (fun c => .cond c (cCodeK P G N a) (cCodeK P G N b)) (opdK G c) : CC) = (match opdOf G c with | some c => .cond c (cCode P G N a) (cCode P G N b) | none => .bad)
    rw [opdK_eq, iha, ihb]
    cases opdOf G c <;> rfl
  | seq a b iha ihb => show CC.seq (cCodeK P G N a) (cCodeK P G N b) = .seq (cCode P G N a) (cCode P G N b); rw [iha, ihb]
  | block id b ih => show CC.block id (cCodeK P G N b) = .block id (cCode P G N b); rw [ih]
  | loop b ih => show CC.loop (cCodeK P G N b) = .loop (cCode P G N b); rw [ih]
  | scope b ih => exact ih
  | _ => rfl
theorem cResY_eq : @cResY = @cRes := by
  funext P l; induction l with
  | nil => rfl
  | cons f l ih => cases f <;> simp only [cResY, cRes, tySizeY_eq, tyAggY_eq, ih] <;> rfl
end Go.Ev

namespace Go.Ev

theorem o1_some {α β : Type} {x : Option α} {f : α → Option β} {b : β} (h : o1 x f = some b) : ∃ a, x = some a ∧ f a = some b := by
  cases x with
  | none => cases h
  | some a => exact ⟨a, rfl, h⟩

theorem conv_sound (env : Env) : ∀ n, (∀ v x, conv n v = some x → VR env x v) ∧ (∀ l x, conv.convL n l = some x → VL env x l) := by
  intro n
  induction n with
  | zero =>
    refine ⟨fun v x h => by simp [conv] at h, fun l x h => ?_⟩
    cases l with
    | nil => simp [conv.convL] at h; subst h; rfl
    | cons a l => simp [conv.convL] at h
  | succ n ih =>
    obtain ⟨ih1, ih2⟩ := ih
    refine ⟨fun v x h => ?_, fun l x h => ?_⟩
    · unfold conv at h
      split at h
      · cases h; rfl
      · cases h; rfl
      · cases h; exact ⟨_, rfl, rfl⟩
      · cases h; rfl
      · cases h; rfl
      · cases h; rfl
      · cases h; rfl
      · cases h; rfl
      · split at h
        · rename_i e; cases h; exact ⟨_, rfl, ih1 _ _ e⟩
        · cases h
      · split at h
        · rename_i e; cases h; exact ⟨_, rfl, ih2 _ _ e⟩
        · cases h
      · split at h
        · rename_i e; cases h; exact ⟨_, rfl, ih2 _ _ e⟩
        · cases h
      · split at h
        · rename_i e e'; cases h; exact ⟨_, _, rfl, ih2 _ _ e, ih2 _ _ e'⟩
        · cases h
      · cases h
    · cases l with
      | nil => simp [conv.convL] at h; subst h; rfl
      | cons a l =>
        simp only [conv.convL] at h
        split at h
        · rename_i e e'; cases h; exact ⟨a, l, rfl, ih1 _ _ e, ih2 _ _ e'⟩
        · cases h

def TR (env : Env) (tm : T AV) (tmps : Array Value) : Prop := ∀ i v, tm.get i = some v → ∃ x, tmps[i]? = some x ∧ VR env v x
def GL (G : Nat) (env : Env) : Prop := ∀ g, g < G → ∃ L, env g = some L ∧ L.b = g ∧ L.base = 0

theorem TR.ext {env env' : Env} (h : Le env env') {tm : T AV} {t : Array Value} (ht : TR env tm t) : TR env' tm t := fun i v e => let ⟨x, a, b⟩ := ht i v e; ⟨x, a, b.ext h⟩
theorem GL.ext {env env' : Env} (h : Le env env') {G : Nat} (ht : GL G env) : GL G env' := fun g e => let ⟨x, a, b⟩ := ht g e; ⟨x, h _ _ a, b⟩

variable {P : Program} {G : Nat} {env : Env} {tm : T AV} {a : Act}

theorem opd_sound (hg : GL G env) (ht : TR env tm a.tmps) {x : Operand} {c : CO} (hc : opdOf G x = some c) {v : AV} (hv : opd tm c = some v) : VR env v (a.eval x) := by
  cases x with
  | tmp i =>
    simp only [opdOf, Option.some.injEq] at hc; subst hc
    obtain ⟨y, e, r⟩ := ht i v hv
    simpa [Act.eval, Array.getD_eq_getD_getElem?, e] using r
  | const u =>
    simp only [opdOf] at hc
    split at hc
    · rename_i x e; cases hc; cases hv; exact (conv_sound env _).1 _ _ e
    · cases hc
  | global g =>
    simp only [opdOf] at hc
    cases hb : Nat.blt g G with
    | false => simp [hb] at hc
    | true =>
      simp only [hb, cond_true, Option.some.injEq] at hc; subst hc; cases hv
      obtain ⟨L, e, hb', h0⟩ := hg g (by simpa using hb)
      exact ⟨L, e, by simp [Act.eval, hb', h0]⟩
  | func f => simp only [opdOf, Option.some.injEq] at hc; subst hc; cases hv; exact ⟨#[], #[], rfl, rfl, rfl⟩

theorem opds_sound (hg : GL G env) (ht : TR env tm a.tmps) : ∀ {l : List Operand} {c : List CO} (_ : opdsOf G l = some c) {v : AV} (_ : opds tm c = some v), VL env v (l.map a.eval) := by
  intro l
  induction l with
  | nil => intro c hc v hv; simp [opdsOf] at hc; subst hc; simp [opds] at hv; subst hv; rfl
  | cons x l ih =>
    intro c hc v hv
    simp only [opdsOf] at hc
    split at hc
    · rename_i y m e e'
      cases hc
      simp only [opds] at hv
      split at hv
      · rename_i z ez
        split at hv
        · rename_i zs ezs; cases hv; exact ⟨_, _, rfl, opd_sound hg ht e ez, ih e' ezs⟩
        · cases hv
      · cases hv
    · cases hc

/-! ### whole numbers -/
theorem kcode_inj {k j : IntKind} (h : Nat.beq (kcode k) (kcode j) = true) : k = j := by
  have h' : kcode k = kcode j := Nat.eq_of_beq_eq_true h
  cases k <;> cases j <;> first | rfl | (simp [kcode] at h')
theorem kcode_self (k : IntKind) : Nat.beq (kcode k) (kcode k) = true := Nat.beq_refl _

theorem kwrap_in (k : IntKind) (n : Int) (h : k.min ≤ n) (h' : n ≤ k.max) : k.wrap n = n := by
  cases k <;> simp [IntKind.min, IntKind.max, IntKind.wrap, IntKind.signed, IntKind.bits] at * <;> omega

theorem wrapF_eq (k : IntKind) (n : Int) : wrapF k n = k.wrap n := by
  cases n with
  | ofNat m =>
    show Bool.rec (motive := fun _ => Int) (k.wrap (.ofNat m)) (.ofNat m) (Nat.ble m (kmax k)) = _
    cases h : Nat.ble m (kmax k) with
    | false => rfl
    | true =>
      have h' : m ≤ kmax k := Nat.le_of_ble_eq_true h
      refine (kwrap_in k _ ?_ ?_).symm
      · cases k <;> simp [IntKind.min, IntKind.signed, IntKind.bits] <;> omega
      · cases k <;> simp [IntKind.max, IntKind.signed, IntKind.bits, kmax] at * <;> omega
  | negSucc m =>
    show Bool.rec (motive := fun _ => Int) (k.wrap (.negSucc m)) (.negSucc m) (Nat.blt m (kneg k)) = _
    cases h : Nat.blt m (kneg k) with
    | false => rfl
    | true =>
      have h' : m < kneg k := by simpa using h
      refine (kwrap_in k _ ?_ ?_).symm
      · cases k <;> simp [IntKind.min, IntKind.signed, IntKind.bits, kneg] at * <;> omega
      · cases k <;> simp [IntKind.max, IntKind.signed, IntKind.bits] <;> omega

theorem ieq_eq (a b : Int) : ieq a b = (a == b) := by
  cases a <;> cases b
  · rename_i m n; show Nat.beq m n = _; rw [Bool.eq_iff_iff]; simp; omega
  · rfl
  · rfl
  · rename_i m n; show Nat.beq m n = _; rw [Bool.eq_iff_iff]; simp
theorem ile_eq (a b : Int) : ile a b = decide (a ≤ b) := by
  cases a <;> cases b
  · rename_i m n; show Nat.ble m n = _; rw [Bool.eq_iff_iff]; simp
  · rename_i m n; show false = _; rw [Bool.eq_iff_iff]; simp; omega
  · rename_i m n; show true = _; rw [Bool.eq_iff_iff]; simp; omega
  · rename_i m n; show Nat.ble n m = _; rw [Bool.eq_iff_iff]; simp; omega
theorem iadd_eq (a b : Int) : iadd a b = a + b := by cases a <;> cases b <;> rfl
theorem imul_eq (a b : Int) : imul a b = a * b := by cases a <;> cases b <;> rfl
theorem ineg_eq (a : Int) : ineg a = -a := by cases a <;> rfl
end Go.Ev

namespace Go.Ev
variable {P : Program} {env : Env}

theorem bits_back (k : IntKind) (x y : Nat) (f : Nat → Nat → Nat) (r : BitVec k.bits) (hr : r.toNat = f x y) : (pure (.int k (k.wrap r.toNat)) : Sem Value) = pure (.int k (k.wrap (f x y : Nat))) := by rw [hr]

theorem strLess_sound : ∀ (x y : List UInt8), strLess (x.map (·.toNat)) (y.map (·.toNat)) = Op.bytesLess x y
  | _, [] => by cases ‹List UInt8› <;> rfl
  | [], _ :: _ => rfl
  | a :: x, b :: y => by
    simp only [List.map_cons, strLess, Op.bytesLess]
    rw [strLess_sound x y]
    have h1 : Nat.blt a.toNat b.toNat = decide (a < b) := by
      rw [Bool.eq_iff_iff]; simp [UInt8.lt_iff_toNat_lt]
    have h2 : Nat.beq a.toNat b.toNat = (a == b) := by
      rw [Bool.eq_iff_iff]; simp [← UInt8.toNat_inj]
    rw [h1, h2]
    by_cases p : a < b <;> by_cases q : a = b <;> simp [p, q]
theorem natsEq_eq : ∀ (x y : List Nat), natsEq x y = (x == y)
  | [], [] => rfl
  | [], _ :: _ => rfl
  | _ :: _, [] => rfl
  | a :: x, b :: y => by
    rw [natsEq, natsEq_eq x y]
    have : Nat.beq a b = (a == b) := by rw [Bool.eq_iff_iff]; simp
    rw [this]
    by_cases h : a = b <;> simp [h]
theorem map_toNat_inj {x y : List UInt8} : (x.map (·.toNat) == y.map (·.toNat)) = (x == y) := by
  rw [Bool.eq_iff_iff]
  simp only [beq_iff_eq]
  constructor
  · intro h
    induction x generalizing y with
    | nil => cases y with | nil => rfl | cons b y => simp at h
    | cons a x ih =>
      cases y with
      | nil => simp at h
      | cons b y =>
        simp only [List.map_cons, List.cons.injEq] at h
        rw [UInt8.toNat_inj.1 h.1, ih h.2]
  · intro h; rw [h]
theorem toList_data (s : ByteArray) : s.toList = s.data.toList := by rw [ByteArray.toList_eq]



theorem kbits_eq (k : IntKind) : kbits k = k.bits := by cases k <;> rfl
theorem kmax_lt (k : IntKind) : kmax k < 2 ^ k.bits := by cases k <;> simp [kmax, IntKind.bits]
theorem kmax_pow (k : IntKind) : ∃ n, kmax k = 2 ^ n - 1 := by
  cases k
  · exact ⟨7, rfl⟩
  · exact ⟨15, rfl⟩
  · exact ⟨31, rfl⟩
  · exact ⟨63, rfl⟩
  · exact ⟨8, rfl⟩
  · exact ⟨16, rfl⟩
  · exact ⟨32, rfl⟩
  · exact ⟨64, rfl⟩
theorem kwrap_nat (k : IntKind) (n : Nat) (h : n ≤ kmax k) : k.wrap (n : Int) = n := by
  refine kwrap_in k _ ?_ ?_
  · cases k <;> simp [IntKind.min, IntKind.signed, IntKind.bits] <;> omega
  · cases k <;> simp [IntKind.max, IntKind.signed, IntKind.bits, kmax] at * <;> omega
theorem ofInt_nat (k : IntKind) (n : Nat) (h : n ≤ kmax k) : (BitVec.ofInt k.bits (n : Int)).toNat = n := by
  have := kmax_lt k
  rw [BitVec.toNat_ofInt]
  have h2 : (n : Int) % (2 ^ k.bits : Nat) = n := Int.emod_eq_of_lt (by omega) (by exact_mod_cast (by omega : n < 2 ^ k.bits))
  rw [h2]; rfl
theorem nat2_and (k : IntKind) (x y : Nat) (hx : x ≤ kmax k) (hy : y ≤ kmax k) : (BitVec.ofInt k.bits (x : Int) &&& BitVec.ofInt k.bits (y : Int)).toNat = Nat.land x y ∧ Nat.land x y ≤ kmax k := by
  rw [BitVec.toNat_and, ofInt_nat k x hx, ofInt_nat k y hy]
  exact ⟨rfl, Nat.le_trans Nat.and_le_left hx⟩
theorem nat2_or (k : IntKind) (x y : Nat) (hx : x ≤ kmax k) (hy : y ≤ kmax k) : (BitVec.ofInt k.bits (x : Int) ||| BitVec.ofInt k.bits (y : Int)).toNat = Nat.lor x y ∧ Nat.lor x y ≤ kmax k := by
  rw [BitVec.toNat_or, ofInt_nat k x hx, ofInt_nat k y hy]
  obtain ⟨n, hn⟩ := kmax_pow k
  have p := Nat.two_pow_pos n
  have h : x ||| y < 2 ^ n := Nat.or_lt_two_pow (by omega) (by omega)
  exact ⟨rfl, by show x ||| y ≤ _; omega⟩
theorem nat2_xor (k : IntKind) (x y : Nat) (hx : x ≤ kmax k) (hy : y ≤ kmax k) : (BitVec.ofInt k.bits (x : Int) ^^^ BitVec.ofInt k.bits (y : Int)).toNat = Nat.xor x y ∧ Nat.xor x y ≤ kmax k := by
  rw [BitVec.toNat_xor, ofInt_nat k x hx, ofInt_nat k y hy]
  obtain ⟨n, hn⟩ := kmax_pow k
  have p := Nat.two_pow_pos n
  have h : x ^^^ y < 2 ^ n := Nat.xor_lt_two_pow (by omega) (by omega)
  exact ⟨rfl, by show x ^^^ y ≤ _; omega⟩
theorem nat2_andNot (k : IntKind) (x y : Nat) (hx : x ≤ kmax k) (hy : y ≤ kmax k) : (BitVec.ofInt k.bits (x : Int) &&& ~~~ BitVec.ofInt k.bits (y : Int)).toNat = Nat.xor x (Nat.land x y) ∧ Nat.xor x (Nat.land x y) ≤ kmax k := by
  have e : BitVec.ofInt k.bits (x : Int) &&& ~~~ BitVec.ofInt k.bits (y : Int) = BitVec.ofInt k.bits (x : Int) ^^^ (BitVec.ofInt k.bits (x : Int) &&& BitVec.ofInt k.bits (y : Int)) := by
    apply BitVec.eq_of_getLsbD_eq
    intro i hi
    simp only [BitVec.getLsbD_and, BitVec.getLsbD_not, BitVec.getLsbD_xor, hi, decide_true, Bool.true_and]
    cases (BitVec.ofInt k.bits (x : Int)).getLsbD i <;> cases (BitVec.ofInt k.bits (y : Int)).getLsbD i <;> rfl
  rw [e, BitVec.toNat_xor, BitVec.toNat_and, ofInt_nat k x hx, ofInt_nat k y hy]
  obtain ⟨n, hn⟩ := kmax_pow k
  have p := Nat.two_pow_pos n
  have h0 : x &&& y ≤ x := Nat.and_le_left
  have h : x ^^^ (x &&& y) < 2 ^ n := Nat.xor_lt_two_pow (by omega) (by omega)
  exact ⟨rfl, by show x ^^^ (x &&& y) ≤ _; omega⟩

theorem intOp_sound {op : BinOp} {k : IntKind} {a b : Int} {v : AV} (h : intOp op k a b = some v) (hs : op ≠ .shl) (hr : op ≠ .shr) (t : Nat) (w : World) : ∃ c, (binOp op t (.int k a) (.int k b)).run P w = .ok c w ∧ VR env v c := by
  cases op <;> simp only [intOp] at h <;> first | (exact absurd rfl hs) | (exact absurd rfl hr) | (cases h; done) | skip
  case add => cases h; exact ⟨.int k (k.wrap (a + b)), by simp [binOp, Op.intArith], by simp [VR, wrapF_eq, iadd_eq]⟩
  case sub => cases h; exact ⟨.int k (k.wrap (a - b)), by simp [binOp, Op.intArith], by simp [VR, wrapF_eq, iadd_eq, ineg_eq, Int.sub_eq_add_neg]⟩
  case mul => cases h; exact ⟨.int k (k.wrap (a * b)), by simp [binOp, Op.intArith], by simp [VR, wrapF_eq, imul_eq]⟩
  case quo =>
    split at h
    · cases h
      rename_i x y
      refine ⟨.int k (k.wrap (Int.tdiv (x : Int) ((y + 1 : Nat) : Int))), ?_, ?_⟩
      · have h0 : ¬ (Int.ofNat (y + 1) = 0) := by simp; omega
        simp only [binOp, Op.intDiv, ne_eq, not_true_eq_false, if_false, h0, Sem.run_pure]
        rfl
      · simp only [VR, wrapF_eq]
        rfl
    · cases h
    · rename_i h0 h1
      cases h
      have hb : b ≠ 0 := by rintro rfl; first | exact h1 rfl | exact h0 rfl | exact h1 0 rfl
      exact ⟨.int k (k.wrap (a.tdiv b)), by simp [binOp, Op.intDiv, hb], by simp [VR, wrapF_eq]⟩
  case rem =>
    split at h
    · cases h
      rename_i x y
      refine ⟨.int k (Int.tmod (x : Int) ((y + 1 : Nat) : Int)), ?_, ?_⟩
      · have h0 : ¬ (Int.ofNat (y + 1) = 0) := by simp; omega
        simp only [binOp, Op.intDiv, ne_eq, not_true_eq_false, if_false, h0, Sem.run_pure]
        rfl
      · simp only [VR]
        rfl
    · cases h
    · rename_i h0 h1
      cases h
      have hb : b ≠ 0 := by rintro rfl; first | exact h1 rfl | exact h0 rfl | exact h1 0 rfl
      exact ⟨.int k (a.tmod b), by simp [binOp, Op.intDiv, hb], by simp [VR]⟩
  case lss => cases h; exact ⟨.bool (decide (a < b)), by simp [binOp, Op.intCmp], by simp [VR, ile_eq]; rw [Bool.eq_iff_iff]; simp⟩
  case leq => cases h; exact ⟨.bool (decide (a ≤ b)), by simp [binOp, Op.intCmp], by simp [VR, ile_eq]⟩
  case gtr => cases h; exact ⟨.bool (decide (b < a)), by simp [binOp, Op.intCmp], by simp [VR, ile_eq]; rw [Bool.eq_iff_iff]; simp⟩
  case geq => cases h; exact ⟨.bool (decide (b ≤ a)), by simp [binOp, Op.intCmp], by simp [VR, ile_eq]⟩
  all_goals
    unfold nat2 at h
    split at h
    case h_2 => cases h
    rename_i x y
    cases hb : (Nat.ble x (kmax k) && Nat.ble y (kmax k)) with
    | false => simp [hb] at h
    | true =>
      simp only [hb, cond_true, Option.some.injEq] at h
      subst h
      simp only [Bool.and_eq_true, Nat.ble_eq] at hb
      obtain ⟨hx, hy⟩ := hb
      first
        | (obtain ⟨e, f⟩ := nat2_and k x y hx hy; exact ⟨.int k (k.wrap ((Nat.land x y : Nat) : Int)), by simp only [binOp, Op.intBits, ne_eq, not_true_eq_false, if_false, Sem.run_pure]; rw [show (Int.ofNat x) = (x : Int) from rfl, show (Int.ofNat y) = (y : Int) from rfl, e], by show Value.int k _ = Value.int k _; rw [kwrap_nat k _ f]; rfl⟩)
        | (obtain ⟨e, f⟩ := nat2_or k x y hx hy; exact ⟨.int k (k.wrap ((Nat.lor x y : Nat) : Int)), by simp only [binOp, Op.intBits, ne_eq, not_true_eq_false, if_false, Sem.run_pure]; rw [show (Int.ofNat x) = (x : Int) from rfl, show (Int.ofNat y) = (y : Int) from rfl, e], by show Value.int k _ = Value.int k _; rw [kwrap_nat k _ f]; rfl⟩)
        | (obtain ⟨e, f⟩ := nat2_xor k x y hx hy; exact ⟨.int k (k.wrap ((Nat.xor x y : Nat) : Int)), by simp only [binOp, Op.intBits, ne_eq, not_true_eq_false, if_false, Sem.run_pure]; rw [show (Int.ofNat x) = (x : Int) from rfl, show (Int.ofNat y) = (y : Int) from rfl, e], by show Value.int k _ = Value.int k _; rw [kwrap_nat k _ f]; rfl⟩)
        | (obtain ⟨e, f⟩ := nat2_andNot k x y hx hy; exact ⟨.int k (k.wrap ((Nat.xor x (Nat.land x y) : Nat) : Int)), by simp only [binOp, Op.intBits, ne_eq, not_true_eq_false, if_false, Sem.run_pure]; rw [show (Int.ofNat x) = (x : Int) from rfl, show (Int.ofNat y) = (y : Int) from rfl, e], by show Value.int k _ = Value.int k _; rw [kwrap_nat k _ f]; rfl⟩)

theorem shift_sound {op : BinOp} {k j : IntKind} {a b : Int} {v : AV} (h : intOp op k a b = some v) (hs : op = .shl ∨ op = .shr) (t : Nat) (w : World) : ∃ c, (binOp op t (.int k a) (.int j b)).run P w = .ok c w ∧ VR env v c := by
  rcases hs with rfl | rfl
  · simp only [intOp] at h
    split at h
    · rename_i x y
      cases hb : Nat.ble y (kbits k) with
      | false => simp [hb] at h
      | true =>
        simp only [hb, cond_true, Option.some.injEq] at h
        subst h
        have hy : y ≤ k.bits := by rw [← kbits_eq]; exact Nat.le_of_ble_eq_true hb
        refine ⟨.int k (k.wrap ((x : Int) * 2 ^ y)), ?_, ?_⟩
        · have h0 : ¬ (Int.ofNat y < 0) := by simp
          have hm : min (Int.ofNat y).toNat k.bits = y := Nat.min_eq_left hy
          simp only [binOp, Op.shift, h0, if_false, hm, Sem.run_pure]
          rfl
        · simp only [VR, wrapF_eq]
          have : (Int.ofNat (Nat.mul x (Nat.pow 2 y))) = (x : Int) * 2 ^ y := by
            show ((x * 2 ^ y : Nat) : Int) = _
            simp
          rw [this]
    · cases h
  · simp only [intOp] at h
    split at h
    · rename_i x y
      cases hb : Nat.ble y (kbits k) with
      | false => simp [hb] at h
      | true =>
        simp only [hb, cond_true, Option.some.injEq] at h
        subst h
        have hy : y ≤ k.bits := by rw [← kbits_eq]; exact Nat.le_of_ble_eq_true hb
        refine ⟨.int k (Int.fdiv (x : Int) (2 ^ y)), ?_, ?_⟩
        · have h0 : ¬ (Int.ofNat y < 0) := by simp
          have hm : min (Int.ofNat y).toNat k.bits = y := Nat.min_eq_left hy
          simp only [binOp, Op.shift, h0, if_false, hm, Sem.run_pure]
          rfl
        · simp only [VR]
          have : (Int.ofNat (Nat.div x (Nat.pow 2 y))) = Int.fdiv (x : Int) (2 ^ y) := by
            rw [Int.fdiv_eq_ediv_of_nonneg _ (by exact_mod_cast Nat.zero_le _)]
            show ((x / 2 ^ y : Nat) : Int) = _
            simp
          rw [this]
    · cases h

theorem strOp_sound {op : BinOp} {x y : List Nat} {v : AV} (h : strOp op x y = some v) {s u : ByteArray} (hx : s.data.toList.map (·.toNat) = x) (hy : u.data.toList.map (·.toNat) = y) (t : Nat) (w : World) : ∃ c, (binOp op t (.string s) (.string u)).run P w = .ok c w ∧ VR env v c := by
  subst hx hy
  have hl : Op.bytesLess s.toList u.toList = strLess (s.data.toList.map (·.toNat)) (u.data.toList.map (·.toNat)) := by rw [toList_data, toList_data, strLess_sound]
  have hl' : Op.bytesLess u.toList s.toList = strLess (u.data.toList.map (·.toNat)) (s.data.toList.map (·.toNat)) := by rw [toList_data, toList_data, strLess_sound]
  have tri : ∀ a b : List UInt8, (Op.bytesLess a b || a == b) = !Op.bytesLess b a := by
    intro a
    induction a with
    | nil => intro b; cases b <;> simp [Op.bytesLess]
    | cons p a ih =>
      intro b
      cases b with
      | nil => simp [Op.bytesLess]
      | cons q b =>
        have := ih b
        simp only [Op.bytesLess]
        by_cases e : p = q
        · subst e
          have hlt : ¬ p < p := by simp [UInt8.lt_iff_toNat_lt]
          simp only [hlt, decide_false, beq_self_eq_true, Bool.true_and, Bool.false_or]
          rw [← this]
          simp
        · have e' : ¬ q = p := fun x => e x.symm
          rcases Nat.lt_trichotomy p.toNat q.toNat with c | c | c
          · have h1 : p < q := UInt8.lt_iff_toNat_lt.2 c
            have h2 : ¬ q < p := fun z => by have := UInt8.lt_iff_toNat_lt.1 z; omega
            simp [h1, h2, e, e']
          · exact absurd (UInt8.toNat_inj.1 c) e
          · have h1 : q < p := UInt8.lt_iff_toNat_lt.2 c
            have h2 : ¬ p < q := fun z => by have := UInt8.lt_iff_toNat_lt.1 z; omega
            simp [h1, h2, e, e']
  cases op <;> simp only [strOp] at h <;> first | (cases h; done) | skip
  case add =>
    cases hb : Nat.ble (Nat.add (s.data.toList.map (·.toNat)).length (u.data.toList.map (·.toNat)).length) 1000000 with
    | false => rw [hb] at h; cases h
    | true =>
    rw [hb] at h
    simp only [cond_true, Option.some.injEq] at h
    subst h
    have hb' : s.size + u.size ≤ 1000000 := by
      have := Nat.le_of_ble_eq_true hb
      simpa using this
    refine ⟨.string (s ++ u), ?_, ⟨_, rfl, by simp⟩⟩
    have h0 : ¬ (((s.size + u.size : Nat) : Int) > IntKind.i64.max) := by simp [IntKind.max, IntKind.signed, IntKind.bits]; omega
    simp only [binOp, Op.stringOp, h0, if_false, Sem.run_pure]
  case lss => cases h; exact ⟨.bool (Op.bytesLess s.toList u.toList), by simp [binOp, Op.stringOp], by simp [VR, hl]⟩
  case leq => cases h; exact ⟨.bool (Op.bytesLess s.toList u.toList || s.toList == u.toList), by simp [binOp, Op.stringOp], by rw [tri, hl']; rfl⟩
  case gtr => cases h; exact ⟨.bool (!(Op.bytesLess s.toList u.toList || s.toList == u.toList)), by simp [binOp, Op.stringOp], by rw [tri, hl', Bool.not_not]; rfl⟩
  case geq => cases h; exact ⟨.bool (!Op.bytesLess s.toList u.toList), by simp [binOp, Op.stringOp], by rw [hl]; rfl⟩
end Go.Ev

namespace Go.Ev
variable {P : Program} {env : Env}

/-- the kind of equality that a type has -/
def EqTy (P : Program) (k : EqS) (t : Nat) : Prop :=
  match k with
  | .bool => P.underlying t = some .bool
  | .int => ∃ j, P.underlying t = some (.int j)
  | .str => P.underlying t = some .string
  | .ptr => ∃ e n i, P.underlying t = some (.pointer e) ∧ P.info? e = some i ∧ i.size = n + 1
  | .slice => ∃ e, P.underlying t = some (.slice e)
  | .map => ∃ j e, P.underlying t = some (.map j e)
  | .func => ∃ a b c, P.underlying t = some (.func a b c)
  | .iface => ∃ m, P.underlying t = some (.interface m)

theorem eqSOf_ty {t : Nat} {k : EqS} (h : eqSOf P t = some k) : EqTy P k t := by
  unfold eqSOf at h
  split at h <;> first | (cases h; simp only [EqTy]; first | assumption | exact ⟨_, ‹_›⟩ | exact ⟨_, _, ‹_›⟩ | exact ⟨_, _, _, ‹_›⟩) | skip
  · rename_i e he
    split at h
    · rename_i n hn
      cases h
      unfold tySize at hn
      split at hn
      · rename_i i hi; exact ⟨e, n, i, he, hi, Option.some.inj hn⟩
      · cases hn
    · cases h
  · cases h

theorem oge_lt {lo : Option Int} {b n : Int} (hl : ∀ l, lo = some l → l ≤ n) (h : oge lo b = true) : b < n := by
  cases lo with
  | none => cases h
  | some l => have := hl l rfl; simp only [oge, ile_eq, Bool.not_eq_true', decide_eq_false_iff_not] at h; omega
theorem ole_lt {hi : Option Int} {b n : Int} (hh : ∀ l, hi = some l → n ≤ l) (h : ole hi b = true) : n < b := by
  cases hi with
  | none => cases h
  | some l => have := hh l rfl; simp only [ole, ile_eq, Bool.not_eq_true', decide_eq_false_iff_not] at h; omega
theorem ogE_le {lo : Option Int} {b n : Int} (hl : ∀ l, lo = some l → l ≤ n) (h : ogE lo b = true) : b ≤ n := by
  cases lo with
  | none => cases h
  | some l => have := hl l rfl; simp only [ogE, ile_eq, decide_eq_true_eq] at h; omega
theorem olE_le {hi : Option Int} {b n : Int} (hh : ∀ l, hi = some l → n ≤ l) (h : olE hi b = true) : n ≤ b := by
  cases hi with
  | none => cases h
  | some l => have := hh l rfl; simp only [olE, ile_eq, decide_eq_true_eq] at h; omega
theorem rng_ne {lo hi : Option Int} {b n : Int} (hl : ∀ l, lo = some l → l ≤ n) (hh : ∀ l, hi = some l → n ≤ l) (h : (oge lo b || ole hi b) = true) : ¬ n = b := by
  simp only [Bool.or_eq_true] at h
  rcases h with h | h
  · have := oge_lt hl h; omega
  · have := ole_lt hh h; omega
theorem rngOp_sound {op : BinOp} {lo hi : Option Int} {b n : Int} (hl : ∀ l, lo = some l → l ≤ n) (hh : ∀ l, hi = some l → n ≤ l) {v : AV} (h : rngOp op lo hi b = some v) (t : Nat) (w : World) :
    ∃ c, (binOp op t (.int .i64 n) (.int .i64 b)).run P w = .ok c w ∧ VR env v c := by
  cases op <;> simp only [rngOp, cond_eq_ite] at h <;> first | (cases h; done) | skip
  · split at h
    · rename_i e; cases h; have := ole_lt hh e; exact ⟨.bool true, by simp [binOp, Op.intCmp, this], rfl⟩
    · split at h
      · rename_i e; cases h; have := ogE_le hl e; exact ⟨.bool false, by simp [binOp, Op.intCmp, this], rfl⟩
      · cases h
  · split at h
    · rename_i e; cases h; have := olE_le hh e; exact ⟨.bool true, by simp [binOp, Op.intCmp, this], rfl⟩
    · split at h
      · rename_i e; cases h; have := oge_lt hl e; exact ⟨.bool false, by simp [binOp, Op.intCmp, this], rfl⟩
      · cases h
  · split at h
    · rename_i e; cases h; have := oge_lt hl e; exact ⟨.bool true, by simp [binOp, Op.intCmp, this], rfl⟩
    · split at h
      · rename_i e; cases h; have := olE_le hh e; exact ⟨.bool false, by simp [binOp, Op.intCmp, this], rfl⟩
      · cases h
  · split at h
    · rename_i e; cases h; have := ogE_le hl e; exact ⟨.bool true, by simp [binOp, Op.intCmp, this], rfl⟩
    · split at h
      · rename_i e; cases h; have := ole_lt hh e; exact ⟨.bool false, by simp [binOp, Op.intCmp, this], rfl⟩
      · cases h

theorem underlying_run {t : Nat} {d : TypeDesc} (h : P.underlying t = some d) (w : World) : (underlying t).run P w = .ok d w := by
  simp [underlying, h]

set_option maxHeartbeats 4000000 in
theorem eqS_sound {k : EqS} {x y : AV} {b : Bool} (h : eqSA k x y = some b) {u v : Value} (hx : VR env x u) (hy : VR env y v) {t : Nat} (ht : EqTy P k t) (d : Nat) (w : World) :
    (Op.equalIn (d + 1) t u v).run P w = .ok b w := by
  have U : ∀ {dd}, P.underlying t = some dd → (underlying t).run P w = .ok dd w := fun e => underlying_run e w
  cases k <;> simp only [eqSA] at h
  case int =>
    obtain ⟨j, hj⟩ := ht
    split at h
    · rename_i k1 a k2 c
      cases hx; cases hy
      cases hk : Nat.beq (kcode k1) (kcode k2) with
      | false => rw [hk] at h; cases h
      | true =>
        rw [hk] at h
        cases h
        cases kcode_inj hk
        rw [ieq_eq]
        simp [Op.equalIn, U hj]
    · obtain ⟨n, rfl, hl, hh⟩ := hx
      rename_i lo hi c
      cases hy
      cases hb : (oge lo c || ole hi c) <;> rw [hb] at h <;> cases h
      have := rng_ne hl hh hb
      simp [Op.equalIn, U hj, this]
    · cases h
  case str =>
    have ht' : P.underlying t = some .string := ht
    split at h
    · obtain ⟨s, rfl, rfl⟩ := hx; obtain ⟨s', rfl, rfl⟩ := hy
      cases h
      simp only [Op.equalIn, Sem.run_bind, U ht', Result.andThen_ok, Sem.run_pure, natsEq_eq, map_toNat_inj]
      congr 1
      show (s.data == s'.data) = _
      rw [Bool.eq_iff_iff]
      simp [← Array.toList_inj]
    · cases h
  case bool =>
    have ht' : P.underlying t = some .bool := ht
    split at h
    · rename_i a c
      cases hx; cases hy; cases h
      cases a <;> cases c <;> simp [Op.equalIn, U ht']
    · cases h
  case ptr =>
    obtain ⟨e, n, i, he, hi, hs⟩ := ht
    have hsz : (sizeOf e).run P w = .ok (n + 1) w := by simp [sizeOf, typeInfo, hi, hs]
    split at h
    · cases hx; cases hy; cases h; simp [Op.equalIn, U he]
    · cases hx; obtain ⟨L, _, rfl⟩ := hy; cases h; simp [Op.equalIn, U he]
    · cases hy; obtain ⟨L, _, rfl⟩ := hx; cases h; simp [Op.equalIn, U he]
    · rename_i i1 o i2 q
      obtain ⟨L, hL, rfl⟩ := hx; obtain ⟨L', hL', rfl⟩ := hy
      cases hk : Nat.beq i1 i2 with
      | false => rw [hk] at h; cases h
      | true =>
        rw [hk] at h; cases h
        cases Nat.eq_of_beq_eq_true hk
        rw [hL] at hL'; cases hL'
        simp only [Op.equalIn, Sem.run_bind, U he, hsz, Result.andThen_ok]
        simp [sameAddr]
        rw [Bool.eq_iff_iff]; simp
    · cases h
  case slice =>
    obtain ⟨e, he⟩ := ht
    split at h
    · cases hx; cases hy; cases h; simp [Op.equalIn, U he]
    · cases hx; obtain ⟨L, c, _, rfl, _⟩ := hy; cases h; simp [Op.equalIn, U he]
    · cases hy; obtain ⟨L, c, _, rfl, _⟩ := hx; cases h; simp [Op.equalIn, U he]
    · cases hx; obtain ⟨a, c, rfl⟩ := hy; cases h; simp [Op.equalIn, U he]
    · cases hy; obtain ⟨a, c, rfl⟩ := hx; cases h; simp [Op.equalIn, U he]
    · cases h
  case map =>
    obtain ⟨j, e, he⟩ := ht
    split at h
    · cases hx; cases hy; cases h; simp [Op.equalIn, U he]
    · cases hx; obtain ⟨L, _, rfl⟩ := hy; cases h; simp [Op.equalIn, U he]
    · cases hy; obtain ⟨L, _, rfl⟩ := hx; cases h; simp [Op.equalIn, U he]
    · cases h
  case func =>
    obtain ⟨a, b', c, he⟩ := ht
    split at h
    · cases hx; cases hy; cases h; simp [Op.equalIn, U he]
    · cases hx; obtain ⟨p, q, rfl, _⟩ := hy; cases h; simp [Op.equalIn, U he]
    · cases hy; obtain ⟨p, q, rfl, _⟩ := hx; cases h; simp [Op.equalIn, U he]
    · cases h
  case iface =>
    obtain ⟨m, he⟩ := ht
    split at h
    · cases hx; cases hy; cases h; simp [Op.equalIn, U he]
    · cases hx; obtain ⟨p, rfl, _⟩ := hy; cases h; simp [Op.equalIn, U he]
    · cases hy; obtain ⟨p, rfl, _⟩ := hx; cases h; simp [Op.equalIn, U he]
    · cases h

def plainEq (u v : Value) : Bool := match u, v with | .int .., .int .. | .float .., .float .. | .complex .., .complex .. | .string _, .string _ => false | _, _ => true
theorem eql_plain {u v : Value} (h : plainEq u v = true) (t : Nat) : binOp .eql t u v = (do pure (.bool (← Op.equal t u v))) := by
  cases u <;> cases v <;> first | rfl | (cases h; done)
theorem neq_plain {u v : Value} (h : plainEq u v = true) (t : Nat) : binOp .neq t u v = (do pure (.bool (!(← Op.equal t u v)))) := by
  cases u <;> cases v <;> first | rfl | (cases h; done)

set_option maxHeartbeats 4000000 in
theorem eqS_bin {k : EqS} {x y : AV} {b : Bool} (h : eqSA k x y = some b) {u v : Value} (hx : VR env x u) (hy : VR env y v) {t : Nat} (ht : EqTy P k t) (w : World) :
    (binOp .eql t u v).run P w = .ok (.bool b) w ∧ (binOp .neq t u v).run P w = .ok (.bool (!b)) w := by
  have he := eqS_sound h hx hy ht 9999 w
  have fin : plainEq u v = true → (binOp .eql t u v).run P w = .ok (.bool b) w ∧ (binOp .neq t u v).run P w = .ok (.bool (!b)) w := by
    intro hp
    have he' : (Op.equal t u v).run P w = .ok b w := he
    rw [eql_plain hp, neq_plain hp]
    simp [he']
  cases k <;> simp only [eqSA] at h
  case int =>
    split at h
    · rename_i k1 a k2 c
      cases hx; cases hy
      cases hk : Nat.beq (kcode k1) (kcode k2) with
      | false => rw [hk] at h; cases h
      | true =>
        rw [hk] at h
        cases h
        cases kcode_inj hk
        rw [ieq_eq]
        simp [binOp, Op.intCmp, bne]
    · obtain ⟨n, rfl, hl, hh⟩ := hx
      rename_i lo hi c
      cases hy
      cases hb : (oge lo c || ole hi c) <;> rw [hb] at h <;> cases h
      have := rng_ne hl hh hb
      simp [binOp, Op.intCmp, bne, this]
    · cases h
  case str =>
    split at h
    · obtain ⟨s, rfl, rfl⟩ := hx; obtain ⟨s', rfl, rfl⟩ := hy
      cases h
      simp [binOp, Op.stringOp, natsEq_eq, map_toNat_inj, toList_data]
    · cases h
  case bool => split at h; cases hx; cases hy; exact fin rfl; cases h
  case ptr =>
    split at h
    · cases hx; exact fin rfl
    · cases hx; exact fin rfl
    · obtain ⟨L, _, rfl⟩ := hx; exact fin rfl
    · obtain ⟨L, _, rfl⟩ := hx; exact fin rfl
    · cases h
  case slice =>
    split at h
    · cases hx; exact fin rfl
    · cases hx; exact fin rfl
    · obtain ⟨L, c, _, rfl, _⟩ := hx; exact fin rfl
    · cases hx; exact fin rfl
    · obtain ⟨a, c, rfl⟩ := hx; exact fin rfl
    · cases h
  case map =>
    split at h
    · cases hx; exact fin rfl
    · cases hx; exact fin rfl
    · obtain ⟨L, _, rfl⟩ := hx; exact fin rfl
    · cases h
  case func =>
    split at h
    · cases hx; exact fin rfl
    · cases hx; exact fin rfl
    · obtain ⟨p, q, rfl, _⟩ := hx; exact fin rfl
    · cases h
  case iface =>
    split at h
    · cases hx; exact fin rfl
    · cases hx; exact fin rfl
    · obtain ⟨p, rfl, _⟩ := hx; exact fin rfl
    · cases h

theorem part_scalar {t : Nat} {k : EqS} (ht : EqTy P k t) {xs : Array Value} {o : Nat} {c : Value} (h : xs.toList[o]? = some c) (w : World) : (part t xs o).run P w = .ok c w := by
  have ha : (isAgg t).run P w = .ok false w := by
    cases k <;> simp only [EqTy] at ht
    case bool => simp [isAgg, underlying_run ht]
    case int => obtain ⟨j, ht⟩ := ht; simp [isAgg, underlying_run ht]
    case str => simp [isAgg, underlying_run ht]
    case ptr => obtain ⟨e, n, i, ht, _⟩ := ht; simp [isAgg, underlying_run ht]
    case slice => obtain ⟨e, ht⟩ := ht; simp [isAgg, underlying_run ht]
    case map => obtain ⟨e, j, ht⟩ := ht; simp [isAgg, underlying_run ht]
    case func => obtain ⟨e, j, _, ht⟩ := ht; simp [isAgg, underlying_run ht]
    case iface => obtain ⟨e, ht⟩ := ht; simp [isAgg, underlying_run ht]
  have h' : xs[o]? = some c := by simpa using h
  simp [part, ha, h']

theorem eqF_sound {x y : AV} {u v : Array Value} (hx : VL env x u.toList) (hy : VL env y v.toList) (d : Nat) (w : World) : ∀ {fs : List Field} {l : List (Nat × EqS)} {b : Bool}, eqFields P fs = some l → eqFA x y l = some b →
    (Op.eqFields (d + 1) u v fs).run P w = .ok b w
  | [], l, b, h, hb => by simp [eqFields] at h; subst h; simp [eqFA] at hb; subst hb; simp [Op.eqFields]
  | f :: fs, l, b, h, hb => by
    simp only [eqFields] at h
    split at h
    · rename_i k m hk hm
      cases hn : (f.name == "_") with
      | true => rw [hn] at h; cases h
      | false =>
        rw [hn] at h; cases h
        simp only [eqFA] at hb
        split at hb
        · rename_i a c ha hc
          obtain ⟨p, hp, hp'⟩ := hx.nth ha
          obtain ⟨q, hq, hq'⟩ := hy.nth hc
          have ty := eqSOf_ty hk
          have hne : f.name ≠ "_" := by simpa using hn
          simp only [Op.eqFields, ne_eq, hne, not_false_eq_true, if_true, Sem.run_bind, part_scalar ty hp w, part_scalar ty hq w, Result.andThen_ok]
          split at hb
          · rename_i e
            simp only [eqS_sound e hp' hq' ty d w, Result.andThen_ok, Bool.not_true, Bool.false_eq_true, if_false]
            exact eqF_sound hx hy d w hm hb
          · rename_i r e
            cases b with
            | true => exact absurd hb e
            | false => simp [eqS_sound hb hp' hq' ty d w]
        · cases hb
    · cases h

theorem guard_const {X Y : Operand} (hc : (Region.isConst X || Region.isConst Y) = true) (op : BinOp) (t : Nat) (w : World) : (eqGuard op t X Y .nilIface .nilIface).run P w = .ok () w := by
  cases op <;> first | rfl | (cases X <;> cases Y <;> first | rfl | (cases hc; done))

theorem eqK_sound {t : Nat} {k : EqK} {X Y : Operand} (hk : eqKOf P t (Region.isConst X || Region.isConst Y) = some k) {x y : AV} {b : Bool} (h : eqKA k x y = some b) {u v : Value} (hx : VR env x u) (hy : VR env y v) (w : World) (op : BinOp) :
    (eqGuard op t X Y u v).run P w = .ok () w ∧ (binOp .eql t u v).run P w = .ok (.bool b) w ∧ (binOp .neq t u v).run P w = .ok (.bool (!b)) w := by
  unfold eqKOf at hk
  have gS : ∀ {q : EqS}, EqTy P q t → eqSA q x y = some b → (q = .iface → (Region.isConst X || Region.isConst Y) = true) → (eqGuard op t X Y u v).run P w = .ok () w := by
    intro q hq hs hc
    have hna : ∀ cs, u ≠ .agg cs := by
      intro cs e; subst e
      cases q <;> simp only [eqSA] at hs <;> (split at hs <;> (try simp only [VR] at hx) <;> first | (cases hs; done) | (cases hx; done) | (obtain ⟨_, e, _⟩ := hx; cases e; done) | (obtain ⟨_, _, e⟩ := hx; cases e; done) | (obtain ⟨_, _, e, _⟩ := hx; cases e; done) | (obtain ⟨_, _, _, e, _⟩ := hx; cases e; done))
    by_cases hn : u = .nilIface ∧ v = .nilIface
    · obtain ⟨rfl, rfl⟩ := hn
      have hqi : q = .iface := by
        cases q <;> simp only [eqSA] at hs <;> (split at hs <;> (try simp only [VR] at hx) <;> first | rfl | (cases hs; done) | (cases hx; done) | (obtain ⟨_, e, _⟩ := hx; cases e; done) | (obtain ⟨_, _, e⟩ := hx; cases e; done) | (obtain ⟨_, _, e, _⟩ := hx; cases e; done) | (obtain ⟨_, _, _, e, _⟩ := hx; cases e; done))
      have hc := hc hqi
      exact guard_const hc op t w
    · cases op <;> first | rfl | (cases u <;> cases v <;> first | rfl | exact absurd ⟨rfl, rfl⟩ hn | exact absurd rfl (hna _))
  split at hk
  · rename_i e
    cases hc : (Region.isConst X || Region.isConst Y) with
    | false => rw [hc] at hk; cases hk
    | true =>
      rw [hc] at hk; cases hk
      have h' : eqSA .iface x y = some b := h
      exact ⟨gS (eqSOf_ty e) h' (fun _ => hc), eqS_bin h' hx hy (eqSOf_ty e) w⟩
  · rename_i q hne e
    cases hk
    have h' : eqSA q x y = some b := h
    exact ⟨gS (eqSOf_ty e) h' (fun e' => absurd e' (by rintro rfl; first | exact hne e | exact hne rfl)), eqS_bin h' hx hy (eqSOf_ty e) w⟩
  · split at hk
    · rename_i fs hfs
      cases hg : (P.stoodInHeld t || P.eqGuardType P.depth t) with
      | true => rw [hg] at hk; cases hk
      | false =>
        rw [hg] at hk
        simp only [cond_false] at hk
        split at hk
        · rename_i l hl
          cases hk
          simp only [Bool.or_eq_false_iff] at hg
          simp only [eqKA] at h
          split at h
          · obtain ⟨xs, rfl, hxs⟩ := hx; obtain ⟨ys, rfl, hys⟩ := hy
            have hfo : P.fieldsOf t = fs := by simp [Program.fieldsOf, hfs]
            have key := run_equalIn_struct w 9999 t xs ys (by rw [hfo]; exact hfs) hg.1
            rw [hfo, eqF_sound hxs hys 9998 w hl h] at key
            refine ⟨run_eqGuard_agg w op t X Y xs ys hg.2, ?_, ?_⟩
            · rw [eql_plain rfl]; simp [Op.equal, Op.maxDepth, key]
            · rw [neq_plain rfl]; simp [Op.equal, Op.maxDepth, key]
          · cases h
        · cases hk
    · cases hk
end Go.Ev

namespace Go.Ev
variable {P : Program} {G : Nat} {env : Env} {tm : T AV} {a : Act}

theorem tySize_info {t n : Nat} (h : tySize P t = some n) : ∃ i, P.info? t = some i ∧ i.size = n := by
  unfold tySize at h
  split at h
  · rename_i i hi; exact ⟨i, hi, Option.some.inj h⟩
  · cases h
theorem sizeOf_run {t n : Nat} (h : tySize P t = some n) (w : World) : (sizeOf t).run P w = .ok n w := by
  obtain ⟨i, hi, rfl⟩ := tySize_info h
  simp [sizeOf, typeInfo, hi]
theorem isAgg_run {t : Nat} {g : Bool} (h : tyAgg P t = some g) (w : World) : (isAgg t).run P w = .ok g w := by
  unfold tyAgg at h
  split at h
  · rename_i fs e; cases h; simp [isAgg, underlying_run e]
  · rename_i n e' e; cases h; simp [isAgg, underlying_run e]
  · rename_i d h1 h2 e
    cases h
    simp only [isAgg, Sem.run_bind, underlying_run e, Result.andThen_ok]
    cases d <;> first | rfl | exact absurd rfl (h1 _) | exact absurd rfl (h2 _ _)
  · cases h
theorem zero_run {t : Nat} {z : AV} (h : tyZero P t = some z) (w : World) : ∃ v, (zeroValue t).run P w = .ok v w ∧ ∀ env, VR env z v := by
  unfold tyZero at h
  split at h
  · rename_i i hi
    split at h
    · rename_i v hv
      exact ⟨v, by simp [zeroValue, typeInfo, hi, hv], fun env => (conv_sound env _).1 _ _ h⟩
    · cases h
  · cases h
theorem zeroC_run {t : Nat} {z : AV} (h : tyZeroC P t = some z) (w : World) : ∃ v, (zeroValue t).run P w = .ok v w ∧ ∀ env, VL env z v.cells.toList := by
  unfold tyZeroC at h
  split at h
  · rename_i y hy
    cases h
    obtain ⟨v, e, r⟩ := zero_run hy w
    exact ⟨v, e, fun env => (r env).cells⟩
  · cases h
theorem field_info {s f ft off : Nat} (h : tyField P s f = some (ft, off)) : ∃ fs fld, P.underlying s = some (.struct fs) ∧ fs[f]? = some fld ∧ fld.type = ft ∧ fld.offset = off := by
  unfold tyField at h
  split at h
  · rename_i fs e
    split at h
    · rename_i x hx; cases h; exact ⟨fs, x, e, hx, rfl, rfl⟩
    · cases h
  · cases h
theorem slice_info {t e s : Nat} (h : tySlice P t = some (e, s)) : P.underlying t = some (.slice e) ∧ tySize P e = some s := by
  unfold tySlice at h
  split at h
  · rename_i e' he
    split at h
    · rename_i s' hs; cases h; exact ⟨he, hs⟩
    · cases h
  · cases h

theorem add_none (b o n : Nat) : (⟨b, o, none⟩ : Addr).add n = ⟨b, o + n, none⟩ := by
  unfold Addr.add
  split
  · rename_i h; subst h; rfl
  · rfl

theorem natOf_some {x : Option AV} {n : Nat} (h : natOf x = some n) : ∃ k, x = some (.int k (.ofNat n)) := by
  unfold natOf at h
  split at h
  · cases h; exact ⟨_, rfl⟩
  · cases h

theorem nat_opd (hg : GL G env) (ht : TR env tm a.tmps) {x : Operand} {c : CO} (hc : opdOf G x = some c) {n : Nat} (h : natOf (opd tm c) = some n) : ∃ k, a.eval x = .int k (n : Int) := by
  obtain ⟨k, e⟩ := natOf_some h
  exact ⟨k, opd_sound hg ht hc e⟩

theorem opdO_some {x : Option Operand} {c : Option CO} (h : opdO G x = some c) : (x = none ∧ c = none) ∨ ∃ y d, x = some y ∧ c = some d ∧ opdOf G y = some d := by
  unfold opdO at h
  split at h
  · cases h; exact .inl ⟨rfl, rfl⟩
  · rename_i y
    split at h
    · rename_i d hd; cases h; exact .inr ⟨y, d, rfl, rfl, hd⟩
    · cases h

/-- a bound that may be missing -/
theorem lim_opd (hg : GL G env) (ht : TR env tm a.tmps) {x : Option Operand} {c : Option CO} (hc : opdO G x = some c) {n d : Nat} (h : lim tm c d = some n) :
    (x = none ∧ n = d) ∨ ∃ y k, x = some y ∧ a.eval y = .int k (n : Int) := by
  rcases opdO_some hc with ⟨rfl, rfl⟩ | ⟨y, e, rfl, rfl, hd⟩
  · exact .inl ⟨rfl, (Option.some.inj h).symm⟩
  · obtain ⟨k, hk⟩ := nat_opd hg ht hd h
    exact .inr ⟨y, k, rfl, hk⟩

/-- the three bounds of a slice, within -/
theorem sliceBounds_run (hg : GL G env) (ht : TR env tm a.tmps) (isS : Bool) {len cap : Nat} {lo hi mx : Option Operand} {lo' hi' mx' : Option CO} (h1 : opdO G lo = some lo') (h2 : opdO G hi = some hi') (h3 : opdO G mx = some mx')
    {l h m : Nat} (e1 : lim tm lo' 0 = some l) (e2 : lim tm hi' len = some h) (e3 : lim tm mx' cap = some m) (a1 : l ≤ h) (a2 : h ≤ m) (a3 : m ≤ cap) (hmx : mx = none ∨ hi ≠ none) (w : World) :
    (Instr.sliceBounds isS len cap (lo.map a.eval) (hi.map a.eval) (mx.map a.eval)).run P w = .ok (l, h, m) w := by
  have sb : ∀ (k : IntKind) (n y : Nat) (code : BoundsCode), n ≤ y → (Instr.sliceBound (.int k (n : Int)) y code).run P w = .ok n w := by
    intro k n y code hle
    have : (0 : Int) ≤ n ∧ (n : Int) ≤ y := ⟨by omega, by omega⟩
    simp [Instr.sliceBound, asIntOf, this]
  rcases lim_opd hg ht h1 e1 with ⟨rfl, rfl⟩ | ⟨y1, k1, rfl, v1⟩ <;> rcases lim_opd hg ht h2 e2 with ⟨rfl, rfl⟩ | ⟨y2, k2, rfl, v2⟩ <;> rcases lim_opd hg ht h3 e3 with ⟨rfl, rfl⟩ | ⟨y3, k3, rfl, v3⟩ <;>
    first
      | (rcases hmx with h | h <;> first | (cases h; done) | (exact absurd rfl h))
      | (simp only [Instr.sliceBounds, Option.map_none, Option.map_some, *, Sem.run_bind, Sem.run_pure, Result.andThen_ok, sb _ _ _ _ a1, sb _ _ _ _ a2, sb _ _ _ _ a3]; done)
      | skip
end Go.Ev

namespace Go.Ev
variable {P : Program} {G : Nat} {env : Env} {tm : T AV} {a : Act}

/-- an operation yields a value, whatever the memory -/
def Yld (P : Program) (a : Act) (env : Env) (o : Oper) (v : AV) : Prop := ∀ w, ∃ c, (execOp a.eval o).run P w = .ok (.value c) w ∧ VR env v c

theorem yld_of {o : Oper} {v : AV} {s : World → Sem Value} (h : ∀ w, (execOp a.eval o).run P w = ((s w).run P w).andThen fun c w' => .ok (.value c) w') (hs : ∀ w, ∃ c, (s w).run P w = .ok c w ∧ VR env v c) : Yld P a env o v := by
  intro w
  obtain ⟨c, e, r⟩ := hs w
  exact ⟨c, by rw [h, e]; rfl, r⟩

theorem fieldPlace_run {n b o : Nat} {f : Field} (h : tySize P f.type = some (n + 1)) (w : World) : (fieldPlace ⟨b, o, none⟩ f).run P w = .ok ⟨b, o + f.offset, none⟩ w := by
  have h0 : ¬ (n + 1 = 0) := by omega
  simp only [fieldPlace, Sem.run_bind, sizeOf_run h, Result.andThen_ok, Sem.run_ite, h0, if_false, Sem.run_pure, add_none]

theorem part_run {t off : Nat} {l v : AV} {xs : Array Value} (hl : VL env l xs.toList) (hv : (bif (match tyAgg P t with | some true => true | _ => false) then (match tySize P t with | some n => (match l.part off n with | some m => some (.agg m) | none => none) | none => none) else (match tyAgg P t with | some false => l.nth off | _ => none)) = some v) (w : World) :
    ∃ c, (part t xs off).run P w = .ok c w ∧ VR env v c := by
  cases hg : tyAgg P t with
  | none => rw [hg] at hv; cases hv
  | some g =>
    cases g with
    | false =>
      rw [hg] at hv
      simp only [cond_false] at hv
      obtain ⟨c, hc, r⟩ := hl.nth hv
      have hc' : xs[off]? = some c := by simpa using hc
      exact ⟨c, by simp [part, isAgg_run hg, hc'], r⟩
    | true =>
      rw [hg] at hv
      simp only [cond_true] at hv
      split at hv
      · rename_i n hn
        split at hv
        · rename_i m hm
          cases hv
          obtain ⟨_, r⟩ := hl.part hm
          refine ⟨.agg (xs.extract off (off + n)), by simp [part, isAgg_run hg, sizeOf_run hn], _, rfl, ?_⟩
          have : (xs.extract off (off + n)).toList = (xs.toList.drop off).take n := by simp
          rw [this]; exact r
        · cases hv
      · cases hv

theorem kwrap_rs (m : Nat) (n : Nat) (h : n < 256) : IntKind.i64.wrap (n : Int) = n := kwrap_nat .i64 n (by show n ≤ 9223372036854775807; omega)

/-! ### bytes of which something is known -/
theorem bit255 (i : Nat) (h : i < 8) : (255 : Nat).testBit i = true := by
  rcases (by omega : i = 0 ∨ i = 1 ∨ i = 2 ∨ i = 3 ∨ i = 4 ∨ i = 5 ∨ i = 6 ∨ i = 7) with rfl | rfl | rfl | rfl | rfl | rfl | rfl | rfl <;> decide
theorem bit_hi {n i : Nat} (hn : n < 256) (h : ¬ i < 8) : n.testBit i = false :=
  Nat.testBit_lt_two_pow (Nat.lt_of_lt_of_le (show n < 2 ^ 8 from hn) (Nat.pow_le_pow_right (by omega) (by omega)))
theorem bits_and {n m r c : Nat} (hn : n < 256) (h : n &&& m = r) : (n &&& c) &&& (m ||| (255 ^^^ c)) = r &&& c := by
  subst h
  apply Nat.eq_of_testBit_eq
  intro i
  simp only [Nat.testBit_and, Nat.testBit_or, Nat.testBit_xor]
  by_cases hi : i < 8
  · rw [bit255 i hi]; cases n.testBit i <;> cases m.testBit i <;> cases c.testBit i <;> rfl
  · rw [bit_hi hn hi]; rfl
theorem bits_or {n m r c : Nat} (h : n &&& m = r) : (n ||| c) &&& (m ||| c) = r ||| c := by
  subst h
  apply Nat.eq_of_testBit_eq
  intro i
  simp only [Nat.testBit_and, Nat.testBit_or]
  cases n.testBit i <;> cases m.testBit i <;> cases c.testBit i <;> rfl
theorem bits_andNot {n m r c : Nat} (h : n &&& m = r) : (n ^^^ (n &&& c)) &&& (m ||| c) = r ^^^ (r &&& c) := by
  subst h
  apply Nat.eq_of_testBit_eq
  intro i
  simp only [Nat.testBit_and, Nat.testBit_or, Nat.testBit_xor]
  cases n.testBit i <;> cases m.testBit i <;> cases c.testBit i <;> rfl
theorem bits_shr {n m r c : Nat} (h : n &&& m = r) : (n / 2 ^ c) &&& (m / 2 ^ c) = r / 2 ^ c := by
  subst h
  apply Nat.eq_of_testBit_eq
  intro i
  simp only [Nat.testBit_and, ← Nat.shiftRight_eq_div_pow, Nat.testBit_shiftRight]
theorem bits_all {n : Nat} (hn : n < 256) : n &&& 255 = n := by
  rw [show (255 : Nat) = 2 ^ 8 - 1 from rfl, Nat.and_two_pow_sub_one_eq_mod, Nat.mod_eq_of_lt hn]
theorem bits_le : ∀ n, n < 256 → ∀ m, m < 256 → n ≤ (n &&& m) + (255 ^^^ m) := by decide +kernel
theorem mkBits_ok {env : Env} {mask val n : Nat} (hn : n < 256) (h : n &&& mask = val) : VR env (mkBits mask val) (.int .u8 n) := by
  unfold mkBits
  cases e : Nat.beq mask 255 with
  | true =>
    have e := Nat.eq_of_beq_eq_true e
    subst e
    rw [bits_all hn] at h
    subst h
    rfl
  | false => exact ⟨n, rfl, by rw [if_neg (show ¬ Nat.add 512 mask < 512 by show ¬ 512 + mask < 512; omega)]; rw [show Nat.add 512 mask - 512 = mask by show 512 + mask - 512 = mask; omega]; exact h, hn⟩
theorem toI64_ok {env : Env} {m r n : Nat} (h2 : if m < 512 then n % m = r else n &&& (m - 512) = r) (h3 : n < 256) {v : AV} (h : toI64 m r = some v) : VR env v (.int .i64 n) := by
  unfold toI64 at h
  cases e : Nat.blt m 512 with
  | true =>
    rw [e] at h
    have e1 : m < 512 := Nat.le_of_ble_eq_true e
    cases h
    exact ⟨n, rfl, h2, h3⟩
  | false =>
    rw [e] at h
    have e1 : ¬ m < 512 := fun q => by rw [show Nat.blt m 512 = true from Nat.ble_eq_true_of_le q] at e; cases e
    rw [if_neg e1] at h2
    cases e2 : Nat.blt (Nat.sub m 512) 256 with
    | false => rw [e2] at h; cases h
    | true =>
      rw [e2] at h
      have e3 : m - 512 < 256 := Nat.le_of_ble_eq_true e2
      cases h
      have q := bits_le n h3 (m - 512) e3
      rw [h2] at q
      have q2 : r ≤ n := by rw [← h2]; exact Nat.and_le_left
      refine ⟨(n : Int), rfl, fun l e => ?_, fun l e => ?_⟩
      · cases e; show (r : Int) ≤ n; omega
      · cases e; show (n : Int) ≤ ((r + (255 ^^^ (m - 512)) : Nat) : Int); omega
theorem rsOp_sound {op : BinOp} {k j : IntKind} {m r c : Nat} {x : Value} (rp : VR env (.rs k m r) x) {v : AV} (h : rsOp op k m r j c = some v) (t : Nat) (w : World) :
    ∃ u, (binOp op t x (.int j (Int.ofNat c))).run P w = .ok u w ∧ VR env v u := by
  obtain ⟨n, rfl, h2, h3⟩ := rp
  unfold rsOp at h
  cases e : Nat.blt m 512 with
  | true =>
    rw [e] at h
    have e1 : m < 512 := Nat.le_of_ble_eq_true e
    rw [if_pos e1] at h2
    simp only [cond_true] at h
    split at h
    · cases hk : (Nat.blt 0 c && (Nat.beq m c && Nat.beq (kcode k) (kcode j))) with
      | false => rw [hk] at h; cases h
      | true =>
        rw [hk] at h; cases h
        simp only [Bool.and_eq_true] at hk
        obtain ⟨k0, k1, k2⟩ := hk
        have k0 : 0 < c := Nat.le_of_ble_eq_true k0
        cases Nat.eq_of_beq_eq_true k1
        cases kcode_inj k2
        refine ⟨.int k (Int.tmod (n : Int) ((m : Nat) : Int)), ?_, ?_⟩
        · have h0 : ¬ (Int.ofNat m = 0) := by simp; omega
          simp only [binOp, Op.intDiv, ne_eq, not_true_eq_false, if_false, h0, Sem.run_pure]
          rfl
        · simp only [VR]; rw [← h2]; rfl
    · cases h
  | false =>
    rw [e] at h
    have e1 : ¬ m < 512 := fun q => by rw [show Nat.blt m 512 = true from Nat.ble_eq_true_of_le q] at e; cases e
    rw [if_neg e1] at h2
    simp only [cond_false] at h
    cases hk : (Nat.beq (kcode k) (kcode .u8) && (Nat.blt c 256 && (shrB op || Nat.beq (kcode .u8) (kcode j)))) with
    | false => rw [hk] at h; cases h
    | true =>
      rw [hk] at h
      simp only [cond_true] at h
      simp only [Bool.and_eq_true, Bool.or_eq_true] at hk
      obtain ⟨k0, k1, k2⟩ := hk
      cases kcode_inj k0
      have k1 : c < 256 := Nat.le_of_ble_eq_true k1
      have b1 : Nat.ble n 255 = true := Nat.ble_eq_true_of_le (by omega)
      have b2 : Nat.ble c 255 = true := Nat.ble_eq_true_of_le (by omega)
      have two : ∀ (f : Nat → Nat → Nat), nat2 f .u8 (Int.ofNat n) (Int.ofNat c) = some (.int .u8 (.ofNat (f n c))) := by
        intro f
        show (bif Nat.ble n 255 && Nat.ble c 255 then _ else _) = _
        rw [b1, b2]; rfl
      have same : ∀ o : BinOp, o ≠ .shl → o ≠ .shr → shrB o = false → Nat.beq (kcode .u8) (kcode j) = true → ∀ z, intOp o .u8 (Int.ofNat n) (Int.ofNat c) = some (.int .u8 (.ofNat z)) →
          (binOp o t (.int .u8 (n : Int)) (.int j (Int.ofNat c))).run P w = .ok (.int .u8 (z : Int)) w := by
        intro o n1 n2 _ n3 z hz
        cases kcode_inj n3
        obtain ⟨u, q1, q2⟩ := intOp_sound (P := P) (env := env) hz n1 n2 t w
        simp only [VR] at q2
        subst q2
        exact q1
      cases op <;> simp only [bitsOp] at h <;> first | (cases h; done) | skip
      case and =>
        cases h
        rcases k2 with k2 | k2
        · cases k2
        · refine ⟨_, same .and (by intro e; cases e) (by intro e; cases e) rfl k2 (Nat.land n c) (two Nat.land), ?_⟩
          exact mkBits_ok (Nat.lt_of_le_of_lt Nat.and_le_left h3) (bits_and h3 h2)
      case or =>
        cases h
        rcases k2 with k2 | k2
        · cases k2
        · refine ⟨_, same .or (by intro e; cases e) (by intro e; cases e) rfl k2 (Nat.lor n c) (two Nat.lor), ?_⟩
          exact mkBits_ok (Nat.or_lt_two_pow (n := 8) h3 k1) (bits_or h2)
      case shr =>
        cases hc : Nat.ble c 8 with
        | false => rw [hc] at h; cases h
        | true =>
          rw [hc] at h
          cases h
          obtain ⟨u, q1, q2⟩ := shift_sound (P := P) (env := env) (op := .shr) (k := .u8) (j := j) (a := Int.ofNat n) (b := Int.ofNat c) (v := .int .u8 (.ofNat (Nat.div n (Nat.pow 2 c)))) (by
            show (bif Nat.ble c 8 then _ else _) = _
            rw [hc]; rfl) (.inr rfl) t w
          simp only [VR] at q2
          subst q2
          refine ⟨_, q1, ?_⟩
          exact mkBits_ok (Nat.lt_of_le_of_lt (Nat.div_le_self _ _) h3) (bits_shr h2)
      case andNot =>
        cases h
        rcases k2 with k2 | k2
        · cases k2
        · refine ⟨_, same .andNot (by intro e; cases e) (by intro e; cases e) rfl k2 (Nat.xor n (Nat.land n c)) (two (fun x y => Nat.xor x (Nat.land x y))), ?_⟩
          exact mkBits_ok (Nat.xor_lt_two_pow (n := 8) h3 (Nat.lt_of_le_of_lt Nat.and_le_left h3)) (bits_andNot h2)

set_option maxHeartbeats 4000000 in
theorem yld_move (hg : GL G env) (ht : TR env tm a.tmps) {x : Operand} {o : Oper} (ho : o.op = .move x ∨ o.op = .assign x) {co : COp} (hc : cOp P G o.op = some co) {v : AV} (h : pureA P co tm = some v) : Yld P a env o v := by
  intro w
  rcases ho with ho | ho <;>
  · rw [ho] at hc
    simp only [cOp] at hc
    obtain ⟨y, hy, e⟩ := o1_some hc
    cases e
    exact ⟨a.eval x, by simp [execOp, ho], opd_sound hg ht hy h⟩

theorem yld_pick (hg : GL G env) (ht : TR env tm a.tmps) {x y z : Operand} {o : Oper} (ho : o.op = .pick x y z) {co : COp} (hc : cOp P G o.op = some co) {v : AV} (h : pureA P co tm = some v) : Yld P a env o v := by
  intro w
  rw [ho] at hc
  simp only [cOp] at hc
  obtain ⟨x', hx, e⟩ := o1_some hc
  obtain ⟨y', hy, e⟩ := o1_some e
  obtain ⟨z', hz, e⟩ := o1_some e
  cases e
  simp only [pureA] at h
  split at h
  · rename_i e; have := opd_sound hg ht hx e; simp only [VR] at this; exact ⟨a.eval y, by simp [execOp, ho, this, asBool], opd_sound hg ht hy h⟩
  · rename_i e; have := opd_sound hg ht hx e; simp only [VR] at this; exact ⟨a.eval z, by simp [execOp, ho, this, asBool], opd_sound hg ht hz h⟩
  · cases h

theorem yld_bin (hg : GL G env) (ht : TR env tm a.tmps) {op : BinOp} {t u : Nat} {x y : Operand} {o : Oper} (ho : o.op = .binOp op t x y u) {co : COp} (hc : cOp P G o.op = some co) {v : AV} (h : pureA P co tm = some v) : Yld P a env o v := by
  intro w
  rw [ho] at hc
  simp only [cOp] at hc
  obtain ⟨x', hx, e⟩ := o1_some hc
  obtain ⟨y', hy, e⟩ := o1_some e
  have gen : ∀ (hne : op ≠ .eql) (hnn : op ≠ .neq), co = .bin op x' y' → ∃ c, (execOp a.eval o).run P w = .ok (.value c) w ∧ VR env v c := by
    rintro hne hnn rfl
    simp only [pureA] at h
    split at h
    · rename_i p hp
      split at h
      · rename_i q hq
        have rp := opd_sound hg ht hx hp
        have rq := opd_sound hg ht hy hq
        have hgd : ∀ (s r : Value), (eqGuard op t x y s r).run P w = .ok () w := by intro s r; cases op <;> first | rfl | exact absurd rfl hne | exact absurd rfl hnn
        have fin : (∃ c, (binOp op t (a.eval x) (a.eval y)).run P w = .ok c w ∧ VR env v c) → ∃ c, (execOp a.eval o).run P w = .ok (.value c) w ∧ VR env v c := by
          rintro ⟨c, e, r⟩
          exact ⟨c, by simp [execOp, ho, hgd, e], r⟩
        apply fin
        unfold binA at h
        split at h
        · rename_i k1 n1 k2 n2
          simp only [VR] at rp rq
          rw [rp, rq]
          split at h
          · exact shift_sound h (.inl rfl) t w
          · exact shift_sound h (.inr rfl) t w
          · rename_i hs hr
            cases hk : Nat.beq (kcode k1) (kcode k2) with
            | false => rw [hk] at h; cases h
            | true => rw [hk] at h; cases kcode_inj hk; exact intOp_sound h hs hr t w
        · obtain ⟨s, e1, e2⟩ := rp; obtain ⟨r, e3, e4⟩ := rq
          rw [e1, e3]
          exact strOp_sound h e2 e4 t w
        · obtain ⟨n, e1, hl, hh⟩ := rp
          simp only [VR] at rq
          rw [e1, rq]
          exact rngOp_sound hl hh h t w
        · simp only [VR] at rq
          rw [rq]
          exact rsOp_sound rp h t w
        · cases h
      · cases h
    · cases h
  cases op
  case eql =>
    obtain ⟨k, hk, e⟩ := o1_some e
    cases e
    simp only [pureA] at h
    split at h
    · rename_i p hp
      split at h
      · rename_i q hq
        split at h
        · rename_i r hr
          cases h
          obtain ⟨e1, e2, _⟩ := eqK_sound hk hr (opd_sound hg ht hx hp) (opd_sound hg ht hy hq) w .eql
          exact ⟨.bool r, by simp [execOp, ho, e1, e2], rfl⟩
        · cases h
      · cases h
    · cases h
  case neq =>
    obtain ⟨k, hk, e⟩ := o1_some e
    cases e
    simp only [pureA] at h
    split at h
    · rename_i p hp
      split at h
      · rename_i q hq
        split at h
        · rename_i r hr
          cases h
          obtain ⟨e1, _, e2⟩ := eqK_sound hk hr (opd_sound hg ht hx hp) (opd_sound hg ht hy hq) w .neq
          exact ⟨.bool (!r), by simp [execOp, ho, e1, e2], rfl⟩
        · cases h
      · cases h
    · cases h
  all_goals exact gen (by intro e; cases e) (by intro e; cases e) (Option.some.inj e).symm

theorem yld_un (hg : GL G env) (ht : TR env tm a.tmps) {op : UnOp} {t : Nat} {x : Operand} {o : Oper} (ho : o.op = .unOp op t x) {co : COp} (hc : cOp P G o.op = some co) {v : AV} (h : pureA P co tm = some v) : Yld P a env o v := by
  intro w
  rw [ho] at hc
  simp only [cOp] at hc
  obtain ⟨x', hx, e⟩ := o1_some hc
  cases op <;> simp only [] at e <;> first | (cases e; done) | (cases e; simp only [pureA] at h)
  · split at h
    · rename_i k n e
      cases h
      have r := opd_sound hg ht hx e
      simp only [VR] at r
      exact ⟨.int k (k.wrap (0 - n)), by simp [execOp, ho, r, Op.unary, Op.intArith], by simp [VR, wrapF_eq, ineg_eq]⟩
    · cases h
  · split at h
    · rename_i b e
      cases h
      have r := opd_sound hg ht hx e
      simp only [VR] at r
      exact ⟨.bool (!b), by simp [execOp, ho, r, Op.unary], rfl⟩
    · cases h

theorem yld_toInt (hg : GL G env) (ht : TR env tm a.tmps) {s d : Nat} {k : IntKind} {x : Operand} {x' : CO} {o : Oper} (ho : o.op = .convert s d x) (hx : opdOf G x = some x') (hs : ∃ j, P.underlying s = some (.int j)) (hd : P.underlying d = some (.int k)) {v : AV} (h : pureA P (.toInt k x') tm = some v) : Yld P a env o v := by
  intro w
  obtain ⟨j, hs⟩ := hs
  simp only [pureA] at h
  split at h
  · rename_i q n e
    cases h
    have r := opd_sound hg ht hx e
    simp only [VR] at r
    exact ⟨.int k (k.wrap n), by simp [execOp, ho, r, convert, underlying_run hs, underlying_run hd, Conv.intToInt], by simp [VR, wrapF_eq]⟩
  · rename_i q m z e
    split at h
    · obtain ⟨n, r1, r2, r3⟩ := opd_sound hg ht hx e
      refine ⟨.int .i64 n, ?_, toI64_ok r2 r3 h⟩
      simp only [execOp, ho, r1, convert, Sem.run_bind, underlying_run hs, underlying_run hd, Conv.intToInt, Result.andThen_ok, Sem.run_pure, kwrap_rs m n r3]
    · cases h
  · cases h

theorem yld_nilchk (hg : GL G env) (ht : TR env tm a.tmps) {x : Operand} {o : Oper} (ho : o.op = .nilCheck x) {co : COp} (hc : cOp P G o.op = some co) {v : AV} (h : pureA P co tm = some v) : Yld P a env o v := by
  intro w
  rw [ho] at hc
  simp only [cOp] at hc
  obtain ⟨x', hx, e⟩ := o1_some hc
  cases e
  simp only [pureA] at h
  split at h
  · rename_i e; cases h
    have r := opd_sound hg ht hx e
    obtain ⟨L, r1, r2⟩ := r
    exact ⟨_, by simp only [execOp, ho, r2]; rfl, L, r1, rfl⟩
  · rename_i e; cases h
    have r := opd_sound hg ht hx e
    obtain ⟨p, q, r2, r3⟩ := r
    exact ⟨_, by simp only [execOp, ho, r2]; rfl, p, q, rfl, r3⟩
  · rename_i e; cases h
    have r := opd_sound hg ht hx e
    obtain ⟨p, r2, r3⟩ := r
    exact ⟨_, by simp only [execOp, ho, r2]; rfl, p, rfl, r3⟩
  · cases h

theorem yld_iface (hg : GL G env) (ht : TR env tm a.tmps) {t : Nat} {x : Operand} {o : Oper} (ho : o.op = .makeInterface t x) {co : COp} (hc : cOp P G o.op = some co) {v : AV} (h : pureA P co tm = some v) : Yld P a env o v := by
  intro w
  rw [ho] at hc
  simp only [cOp] at hc
  obtain ⟨x', hx, e⟩ := o1_some hc
  have key : co = .iface t x' ∧ ∃ d, P.underlying t = some d ∧ ∀ m, d ≠ .interface m := by
    split at e
    · cases e
    · rename_i d hn hd; cases e; exact ⟨rfl, d, hd, fun m hm => hn m (by rw [← hm])⟩
    · cases e
  obtain ⟨rfl, d, hd, hn⟩ := key
  simp only [pureA] at h
  split at h
  · rename_i y e; cases h
    have r := opd_sound hg ht hx e
    refine ⟨.iface t (a.eval x), ?_, _, rfl, r⟩
    simp only [execOp, ho, Instr.makeInterface, Sem.run_bind, underlying_run hd, Result.andThen_ok]
    cases d <;> first | rfl | exact absurd rfl (hn _)
  · cases h

theorem yld_func (hg : GL G env) (ht : TR env tm a.tmps) {f : Fn} {p q : Array Operand} {o : Oper} (ho : o.op = .makeFunc f p q) {co : COp} (hc : cOp P G o.op = some co) {v : AV} (h : pureA P co tm = some v) : Yld P a env o v := by
  intro w
  rw [ho] at hc
  simp only [cOp] at hc
  obtain ⟨x', hx, e⟩ := o1_some hc
  obtain ⟨y', hy, e⟩ := o1_some e
  cases e
  simp only [pureA] at h
  split at h
  · rename_i e1 e2; cases h
    have r1 := opds_sound hg ht hx e1
    have r2 := opds_sound hg ht hy e2
    refine ⟨.func f (p.map a.eval) (q.map a.eval), by simp [execOp, ho, Instr.makeFunc], _, _, rfl, by simpa using r1, by simpa using r2⟩
  · cases h

theorem yld_faddr (hg : GL G env) (ht : TR env tm a.tmps) {s f : Nat} {x : Operand} {o : Oper} (ho : o.op = .fieldAddr s x f) {co : COp} (hc : cOp P G o.op = some co) {v : AV} (h : pureA P co tm = some v) : Yld P a env o v := by
  intro w
  rw [ho] at hc
  simp only [cOp] at hc
  obtain ⟨⟨ft, off⟩, hf, e⟩ := o1_some hc
  simp only at e
  split at e
  · rename_i n hn
    obtain ⟨x', hx, e⟩ := o1_some e
    cases e
    obtain ⟨fs, fld, u1, u2, rfl, rfl⟩ := field_info hf
    simp only [pureA] at h
    split at h
    · rename_i id p e; cases h
      obtain ⟨L, r1, r2⟩ := opd_sound hg ht hx e
      refine ⟨.pointer (some ⟨L.b, L.base + p + fld.offset, none⟩), ?_, L, r1, by simp [Nat.add_assoc]⟩
      have fp := fieldPlace_run (b := L.b) (o := L.base + p) hn w
      simp [execOp, ho, Instr.fieldAt, underlying_run u1, u2, r2, Instr.sureAddr, fp]
    · cases h
  · cases e

theorem yld_field (hg : GL G env) (ht : TR env tm a.tmps) {t f : Nat} {x : Operand} {o : Oper} (ho : o.op = .field t x f) {co : COp} (hc : cOp P G o.op = some co) {v : AV} (h : pureA P co tm = some v) : Yld P a env o v := by
  intro w
  rw [ho] at hc
  simp only [cOp] at hc
  obtain ⟨⟨ft, off⟩, hf, e⟩ := o1_some hc
  simp only at e
  obtain ⟨x', hx, e⟩ := o1_some e
  obtain ⟨g, hgg, e⟩ := o1_some e
  obtain ⟨fs, fld, u1, u2, rfl, rfl⟩ := field_info hf
  have key : ∃ l xs, a.eval x = .agg xs ∧ VL env l xs.toList ∧ (bif (match tyAgg P fld.type with | some true => true | _ => false) then (match tySize P fld.type with | some n => (match l.part fld.offset n with | some m => some (AV.agg m) | none => none) | none => none) else (match tyAgg P fld.type with | some false => l.nth fld.offset | _ => none)) = some v := by
    rw [hgg]
    cases g with
    | false =>
      cases e
      simp only [pureA] at h
      split at h
      · rename_i l e; obtain ⟨xs, r1, r2⟩ := opd_sound hg ht hx e; exact ⟨l, xs, r1, r2, h⟩
      · cases h
    | true =>
      simp only [cond_true] at e
      obtain ⟨n, hn, e⟩ := o1_some e
      cases e
      simp only [pureA] at h
      split at h
      · rename_i l e; obtain ⟨xs, r1, r2⟩ := opd_sound hg ht hx e; exact ⟨l, xs, r1, r2, by rw [hn]; exact h⟩
      · cases h
  obtain ⟨l, xs, r1, r2, r3⟩ := key
  obtain ⟨c, r4, r5⟩ := part_run r2 r3 w
  exact ⟨c, by simp [execOp, ho, Instr.field, underlying_run u1, u2, r1, asAgg, r4], r5⟩

theorem index_in {i n : Nat} (h : Nat.blt i n = true) : (0 : Int) ≤ (i : Int) ∧ (i : Int) < (n : Int) := by
  have : i < n := by simpa using h
  omega

theorem yld_idxA (hg : GL G env) (ht : TR env tm a.tmps) {t : Nat} {x i : Operand} {o : Oper} (ho : o.op = .indexAddr t x i) {co : COp} (hc : cOp P G o.op = some co) {v : AV} (h : pureA P co tm = some v) : Yld P a env o v := by
  intro w
  rw [ho] at hc
  simp only [cOp] at hc
  obtain ⟨x', hx, e⟩ := o1_some hc
  obtain ⟨i', hi, e⟩ := o1_some e
  split at e
  · rename_i n el hu
    obtain ⟨s, hs, e⟩ := o1_some e
    cases e
    simp only [pureA] at h
    split at h
    · rename_i id p j e1 e2
      cases hb : Nat.blt j n with
      | false => rw [hb] at h; cases h
      | true =>
        rw [hb] at h; cases h
        obtain ⟨L, r1, r2⟩ := opd_sound hg ht hx e1
        obtain ⟨k, r3⟩ := nat_opd hg ht hi e2
        refine ⟨.pointer (some ⟨L.b, L.base + p + j * s, none⟩), ?_, L, r1, by simp [Nat.add_assoc]⟩
        simp only [execOp, ho, Instr.indexAt, r3, asIntOf, Sem.run_bind, Sem.run_pure, Result.andThen_ok, underlying_run hu, r2, Instr.sureAddr, index_in hb, and_self, if_true, sizeOf_run hs, Int.toNat_natCast, add_none]
    · cases h
  · rename_i el hu
    obtain ⟨s, hs, e⟩ := o1_some e
    cases e
    simp only [pureA] at h
    split at h
    · rename_i id p len cp j e1 e2
      cases hb : Nat.blt j len with
      | false => rw [hb] at h; cases h
      | true =>
        rw [hb] at h; cases h
        obtain ⟨L, c, r1, r2, _⟩ := opd_sound hg ht hx e1
        obtain ⟨k, r3⟩ := nat_opd hg ht hi e2
        refine ⟨.pointer (some ⟨L.b, L.base + p + j * s, none⟩), ?_, L, r1, by simp [Nat.add_assoc]⟩
        simp only [execOp, ho, Instr.indexAt, r3, asIntOf, Sem.run_bind, Sem.run_pure, Result.andThen_ok, underlying_run hu, r2, index_in hb, and_self, if_true, sizeOf_run hs, Int.toNat_natCast, add_none]
    · cases h
  · cases e

theorem yld_index (hg : GL G env) (ht : TR env tm a.tmps) {t : Nat} {x i : Operand} {o : Oper} (ho : o.op = .index t x i) {co : COp} (hc : cOp P G o.op = some co) {v : AV} (h : pureA P co tm = some v) : Yld P a env o v := by
  intro w
  rw [ho] at hc
  simp only [cOp] at hc
  obtain ⟨x', hx, e⟩ := o1_some hc
  obtain ⟨i', hi, e⟩ := o1_some e
  split at e
  · rename_i hu
    cases e
    simp only [pureA] at h
    split at h
    · rename_i l j e1 e2
      split at h
      · rename_i c hcj
        cases h
        obtain ⟨s, r1, r2⟩ := opd_sound hg ht hx e1
        obtain ⟨k, r3⟩ := nat_opd hg ht hi e2
        subst r2
        rw [List.getElem?_map, Option.map_eq_some_iff] at hcj
        obtain ⟨u, hu1, hu2⟩ := hcj
        have hs : s[j]? = some u := by
          have : s.data[j]? = some u := by simpa using hu1
          exact this
        refine ⟨.int .u8 u.toNat, ?_, by simp [VR, ← hu2]⟩
        simp only [execOp, ho, Instr.index, r3, asIntOf, Sem.run_bind, Sem.run_pure, Result.andThen_ok, underlying_run hu, r1]
        have h0 : (0 : Int) ≤ (j : Int) := by omega
        simp only [h0, if_true, Int.toNat_natCast, hs, Sem.run_pure, Result.andThen_ok]
      · cases h
    · cases h
  · rename_i n el hu
    obtain ⟨s, hs, e⟩ := o1_some e
    obtain ⟨g, hgg, e⟩ := o1_some e
    have key : ∃ l xs j k, a.eval x = .agg xs ∧ VL env l xs.toList ∧ a.eval i = .int k (j : Nat) ∧ Nat.blt j n = true ∧ (bif (match tyAgg P el with | some true => true | _ => false) then (match tySize P el with | some n => (match l.part (j * s) n with | some m => some (AV.agg m) | none => none) | none => none) else (match tyAgg P el with | some false => l.nth (j * s) | _ => none)) = some v := by
      rw [hgg]
      cases g with
      | false =>
        cases e
        simp only [pureA] at h
        split at h
        · rename_i l j e1 e2
          cases hb : Nat.blt j n with
          | false => rw [hb] at h; cases h
          | true =>
            rw [hb] at h
            obtain ⟨xs, r1, r2⟩ := opd_sound hg ht hx e1
            obtain ⟨k, r3⟩ := nat_opd hg ht hi e2
            exact ⟨l, xs, j, k, r1, r2, r3, hb, h⟩
        · cases h
      | true =>
        cases e
        simp only [pureA] at h
        split at h
        · rename_i l j e1 e2
          cases hb : Nat.blt j n with
          | false => rw [hb] at h; cases h
          | true =>
            rw [hb] at h
            obtain ⟨xs, r1, r2⟩ := opd_sound hg ht hx e1
            obtain ⟨k, r3⟩ := nat_opd hg ht hi e2
            exact ⟨l, xs, j, k, r1, r2, r3, hb, by rw [hs]; exact h⟩
        · cases h
    obtain ⟨l, xs, j, k, r1, r2, r3, hb, r4⟩ := key
    obtain ⟨c, r5, r6⟩ := part_run r2 r4 w
    refine ⟨c, ?_, r6⟩
    simp only [execOp, ho, Instr.index, r3, asIntOf, Sem.run_bind, Sem.run_pure, Result.andThen_ok, underlying_run hu, r1, index_in hb, and_self, if_true, sizeOf_run hs, Int.toNat_natCast, r5]
  · cases e

theorem yld_extract (hg : GL G env) (ht : TR env tm a.tmps) {i : Nat} {x : Operand} {o : Oper} (ho : o.op = .extract x i) {co : COp} (hc : cOp P G o.op = some co) {v : AV} (h : pureA P co tm = some v) : Yld P a env o v := by
  intro w
  rw [ho] at hc
  simp only [cOp] at hc
  obtain ⟨x', hx, e⟩ := o1_some hc
  cases e
  simp only [pureA] at h
  split at h
  · rename_i l e
    obtain ⟨xs, r1, r2⟩ := opd_sound hg ht hx e
    obtain ⟨c, r3, r4⟩ := r2.nth h
    have r3' : xs[i]? = some c := by simpa using r3
    exact ⟨c, by simp [execOp, ho, Instr.extract, r1, r3'], r4⟩
  · cases h

theorem pair_VR {x y : AV} {u v : Value} (hx : VR env x u) (hy : VR env y v) : VR env (pairA x y) (.tuple #[u, v]) := ⟨_, rfl, u, [v], rfl, hx, v, [], rfl, hy, rfl⟩
end Go.Ev

namespace Go.Ev
variable {P : Program} {G : Nat} {env : Env} {tm : T AV} {a : Act}

theorem setL_sound {env : Env} : ∀ {z : AV} {off : Nat} {vs z' : AV} {l m : List Value}, VL env z l → VL env vs m → setL z off vs = some z' →
    off + m.length ≤ l.length ∧ VL env z' (l.take off ++ m ++ l.drop (off + m.length)) := by
  intro z
  induction z with
  | cons h t _ iht =>
    rintro off vs z' l m ⟨x, xs, rfl, hx, hxs⟩ hm e
    cases off with
    | zero =>
      cases vs with
      | nil => cases hm; simp [setL] at e; subst e; exact ⟨by simp, by simpa using ⟨x, xs, rfl, hx, hxs⟩⟩
      | cons v vs =>
        obtain ⟨y, ys, rfl, hy, hys⟩ := hm
        simp only [setL] at e
        split at e
        · rename_i t' et
          cases e
          obtain ⟨h1, h2⟩ := iht hxs hys et
          refine ⟨by simp at h1 ⊢; omega, ⟨y, _, rfl, hy, ?_⟩⟩
          simpa using h2
        · cases e
      | _ => exact hm.elim
    | succ i =>
      have e' : (match setL t i vs with | some t' => some (AV.cons h t') | none => none) = some z' := by
        cases vs <;> exact e
      split at e'
      · rename_i t' et
        cases e'
        obtain ⟨h1, h2⟩ := iht hxs hm et
        have : i + 1 + m.length = (i + m.length) + 1 := by omega
        refine ⟨by simp; omega, ⟨x, xs.take i ++ m ++ xs.drop (i + m.length), by rw [this]; simp, hx, h2⟩⟩
      · cases e'
  | nil =>
    rintro off vs z' l m rfl hm e
    cases off with
    | zero => cases vs with
      | nil => cases hm; simp [setL] at e; subst e; simp [VL]
      | cons v vs => simp [setL] at e
      | _ => exact hm.elim
    | succ i => cases vs <;> simp [setL] at e
  | _ => intro off vs z' l m h; exact h.elim

theorem foldl_splice (off : Nat) : ∀ (vs : List Value) (j : Nat) (cells : Array Value), off + j + vs.length ≤ cells.size →
    ((vs.zipIdx j).foldl (fun (cs : Array Value) (p : Value × Nat) => cs.setIfInBounds (off + p.2) p.1) cells).toList = cells.toList.take (off + j) ++ vs ++ cells.toList.drop (off + j + vs.length)
  | [], j, cells, _ => by simp
  | v :: vs, j, cells, h => by
    simp only [List.zipIdx_cons, List.foldl_cons]
    rw [foldl_splice off vs (j + 1) _ (by simp at h ⊢; omega)]
    simp only [Array.toList_setIfInBounds]
    simp only [List.length_cons] at h
    have hlt : off + j < cells.toList.length := by simp; omega
    have e1 : (cells.toList.set (off + j) v).take (off + (j + 1)) = cells.toList.take (off + j) ++ [v] := by
      rw [show off + (j + 1) = (off + j) + 1 by omega, List.take_add_one]
      simp [List.take_set_of_le, List.getElem?_set_self hlt]
    have e2 : (cells.toList.set (off + j) v).drop (off + (j + 1) + vs.length) = cells.toList.drop (off + j + (vs.length + 1)) := by
      rw [List.drop_set_of_lt (by omega)]
      congr 1; omega
    rw [e1, e2]
    simp

theorem fill_step (off : Nat) (v : Value) (cells : Array Value) (h : off + v.cells.size ≤ cells.size) :
    (v.cells.zipIdx.foldl (fun cs (x : Value × Nat) => match x with | (c, j) => cs.setIfInBounds (off + j) c) cells).toList = cells.toList.take off ++ v.cells.toList ++ cells.toList.drop (off + v.cells.size) := by
  have := foldl_splice off v.cells.toList 0 cells (by simpa using h)
  rw [← Array.foldl_toList, Array.toList_zipIdx]
  simp only [Nat.add_zero, Array.length_toList] at this
  exact this

/-- places and parts of a composite -/
theorem fill_sound (hg : GL G env) (ht : TR env tm a.tmps) (place : Nat → Option (Nat × Nat)) : ∀ {ps : List (Nat × Operand)} {l : List (Nat × Nat × CO)}
    (_ : l.length = ps.length) (_ : ∀ (k i : Nat) (x : Operand), ps[k]? = some (i, x) → ∃ (off s : Nat) (c : CO), l[k]? = some (off, s, c) ∧ place i = some (off, s) ∧ opdOf G x = some c) {z z' : AV} {cells : Array Value}, VL env z cells.toList → fillL tm z l = some z' →
    ∃ cells' : Array Value, Instr.fill place cells (ps.map fun (i, x) => (i, a.eval x)) = some cells' ∧ VL env z' cells'.toList
  | [], l, hl, _, z, z', cells, hz, e => by
    cases l with
    | nil => simp [fillL] at e; subst e; exact ⟨cells, rfl, hz⟩
    | cons x l => simp at hl
  | (i, x) :: ps, l, hl, hp, z, z', cells, hz, e => by
    cases l with
    | nil => simp at hl
    | cons y l =>
      obtain ⟨off, s, c, e1, e2, e3⟩ := hp 0 i x rfl
      simp only [List.getElem?_cons_zero, Option.some.injEq] at e1
      subst e1
      simp only [fillL] at e
      split at e
      · rename_i v hv
        have rv := opd_sound hg ht e3 hv
        have rc := rv.cells
        cases hb : Nat.beq v.cells.len s with
        | false => rw [hb] at e; cases e
        | true =>
          rw [hb] at e
          simp only [cond_true] at e
          split at e
          · rename_i z1 hz1
            have hlen := rc.len
            have hs : (a.eval x).cells.size = s := by have := Nat.eq_of_beq_eq_true hb; simp at hlen; omega
            obtain ⟨b1, b2⟩ := setL_sound hz rc hz1
            simp only [Array.length_toList] at b1 b2
            have fs := fill_step off (a.eval x) cells b1
            obtain ⟨cells', f1, f2⟩ := fill_sound hg ht place (ps := ps) (l := l) (by simpa using hl) (fun k i x hk => hp (k + 1) i x (by simpa using hk)) (cells := (a.eval x).cells.zipIdx.foldl (fun cs (x : Value × Nat) => match x with | (c, j) => cs.setIfInBounds (off + j) c) cells) (by rw [fs]; exact b2) e
            refine ⟨cells', ?_, f2⟩
            simp only [List.map_cons, Instr.fill, e2]
            have hc : ((decide ((a.eval x).cells.size ≠ s) || decide (off + (a.eval x).cells.size > cells.size)) = true) = False := by
              simp [hs]; omega
            simp only [hc, if_false]
            exact f1
          · cases e
      · cases e

theorem sized_mem {l : List Field} (h : sized P l = true) : ∀ f ∈ l, ∃ n, tySize P f.type = some n := by
  induction l with
  | nil => intro f hf; cases hf
  | cons g l ih =>
    simp only [sized] at h
    split at h
    · rename_i n hn
      intro f hf
      rcases List.mem_cons.1 hf with rfl | hf
      · exact ⟨n, hn⟩
      · exact ih h f hf
    · cases h

theorem places_run (w : World) : ∀ {l : List Field}, sized P l = true → (l.mapM (fun f => do pure (f.offset, ← sizeOf f.type) : Field → Sem (Nat × Nat))).run P w = .ok (l.map fun f => (f.offset, (tySize P f.type).getD 0)) w
  | [], _ => by simp
  | f :: l, h => by
    have h1 := sized_mem h f (by simp)
    obtain ⟨n, hn⟩ := h1
    have h2 : sized P l = true := by simp only [sized, hn] at h; exact h
    simp only [List.mapM_cons, Sem.run_bind, sizeOf_run hn, Result.andThen_ok, Sem.run_pure, places_run w h2, List.map_cons, hn, Option.getD_some]

theorem partsS_spec {t : Nat} {fs : Array Field} (hu : P.underlying t = some (.struct fs)) : ∀ {ps : List (Nat × Operand)} {l : List (Nat × Nat × CO)}, partsS P G t ps = some l →
    l.length = ps.length ∧ ∀ (k i : Nat) (x : Operand), ps[k]? = some (i, x) → ∃ (off s : Nat) (c : CO), l[k]? = some (off, s, c) ∧ ((fs.toList.map fun f => (f.offset, (tySize P f.type).getD 0))[i]? = some (off, s)) ∧ opdOf G x = some c
  | [], l, h => by simp [partsS] at h; subst h; exact ⟨rfl, fun k i x hk => by simp at hk⟩
  | (i, x) :: ps, l, h => by
    simp only [partsS] at h
    split at h
    · rename_i ft off hf
      split at h
      · rename_i s c m hs hc hm
        cases h
        obtain ⟨h1, h2⟩ := partsS_spec hu hm
        obtain ⟨fs', fld, u1, u2, rfl, rfl⟩ := field_info hf
        rw [hu] at u1; cases u1
        refine ⟨by simp [h1], fun k j y hk => ?_⟩
        cases k with
        | zero =>
          simp only [List.getElem?_cons_zero, Option.some.injEq, Prod.mk.injEq] at hk
          obtain ⟨rfl, rfl⟩ := hk
          have u2' : fs.toList[i]? = some fld := by simpa using u2
          exact ⟨_, _, _, rfl, by rw [List.getElem?_map, u2']; simp [hs], hc⟩
        | succ k => simpa using h2 k j y (by simpa using hk)
      · cases h
    · cases h

theorem partsA_spec {s : Nat} : ∀ {ps : List (Nat × Operand)} {l : List (Nat × Nat × CO)}, partsA G s ps = some l →
    l.length = ps.length ∧ ∀ (k i : Nat) (x : Operand), ps[k]? = some (i, x) → ∃ (off s' : Nat) (c : CO), l[k]? = some (off, s', c) ∧ some (i * s, s) = some (off, s') ∧ opdOf G x = some c
  | [], l, h => by simp [partsA] at h; subst h; exact ⟨rfl, fun k i x hk => by simp at hk⟩
  | (i, x) :: ps, l, h => by
    simp only [partsA] at h
    split at h
    · rename_i c m hc hm
      cases h
      obtain ⟨h1, h2⟩ := partsA_spec hm
      refine ⟨by simp [h1], fun k j y hk => ?_⟩
      cases k with
      | zero =>
        simp only [List.getElem?_cons_zero, Option.some.injEq, Prod.mk.injEq] at hk
        obtain ⟨rfl, rfl⟩ := hk
        exact ⟨_, _, _, rfl, rfl, hc⟩
      | succ k => simpa using h2 k j y (by simpa using hk)
    · cases h

theorem yld_build (hg : GL G env) (ht : TR env tm a.tmps) {t : Nat} {ps : Array (Nat × Operand)} {o : Oper} (ho : o.op = .build t ps) {co : COp} (hc : cOp P G o.op = some co) {v : AV} (h : pureA P co tm = some v) : Yld P a env o v := by
  intro w
  rw [ho] at hc
  simp only [cOp] at hc
  split at hc
  · rename_i z fs hz hu
    cases hsz : sized P fs.toList with
    | false => rw [hsz] at hc; cases hc
    | true =>
      rw [hsz] at hc
      obtain ⟨l, hl, e⟩ := o1_some hc
      cases e
      simp only [pureA] at h
      split at h
      · rename_i m hm
        cases h
        obtain ⟨zv, z1, z2⟩ := zeroC_run hz w
        obtain ⟨p1, p2⟩ := partsS_spec hu hl
        obtain ⟨cells, f1, f2⟩ := fill_sound hg ht (fun i => (fs.toList.map fun f => (f.offset, (tySize P f.type).getD 0))[i]?) p1 p2 (z2 env) hm
        refine ⟨.agg cells, ?_, _, rfl, f2⟩
        have hpl : (fs.mapM (fun f => do pure (f.offset, ← sizeOf f.type) : Field → Sem (Nat × Nat))).run P w = .ok (fs.toList.map fun f => (f.offset, (tySize P f.type).getD 0)).toArray w := by
          rw [Array.mapM_eq_mapM_toList]
          simp only [Sem.run_map, places_run w hsz, Result.andThen_ok]
        simp only [execOp, ho, Instr.build, Sem.run_bind, z1, Result.andThen_ok, underlying_run hu, hpl, Sem.run_pure]
        have e2 : (Array.map (fun x => (x.1, a.eval x.2)) ps).toList = ps.toList.map fun (i, x) => (i, a.eval x) := by simp
        simp only [e2]
        have f1' : Instr.fill (fun x => (fs.toList.map fun f => (f.offset, (tySize P f.type).getD 0)).toArray[x]?) zv.cells (ps.toList.map fun (i, x) => (i, a.eval x)) = some cells := by
          rw [← f1]; congr 1; funext i; simp
        rw [f1']
        simp
      · cases h
  · rename_i z n el hz hu
    obtain ⟨s, hs, e⟩ := o1_some hc
    obtain ⟨l, hl, e⟩ := o1_some e
    cases e
    simp only [pureA] at h
    split at h
    · rename_i m hm
      cases h
      obtain ⟨zv, z1, z2⟩ := zeroC_run hz w
      obtain ⟨p1, p2⟩ := partsA_spec hl
      obtain ⟨cells, f1, f2⟩ := fill_sound hg ht (fun i => some (i * s, s)) p1 p2 (z2 env) hm
      refine ⟨.agg cells, ?_, _, rfl, f2⟩
      simp only [execOp, ho, Instr.build, Sem.run_bind, z1, Result.andThen_ok, underlying_run hu, sizeOf_run hs, Sem.run_pure]
      have e2 : (Array.map (fun x => (x.1, a.eval x.2)) ps).toList = ps.toList.map fun (i, x) => (i, a.eval x) := by simp
      simp only [e2]
      rw [f1]
      simp
    · cases h
  · cases hc
end Go.Ev

namespace Go.Ev
variable {P : Program} {G : Nat} {env : Env} {tm : T AV} {a : Act}

theorem conj3 {x y z : Bool} (h : (x && y && z) = true) : x = true ∧ y = true ∧ z = true := by simpa [and_assoc] using h

theorem yld_slStr (hg : GL G env) (ht : TR env tm a.tmps) {t : Nat} {x : Operand} {lo hi : Option Operand} {x' : CO} {lo' hi' : Option CO} {o : Oper} (ho : o.op = .slice t x lo hi none) (hx : opdOf G x = some x') (h1 : opdO G lo = some lo') (h2 : opdO G hi = some hi')
    (hu : P.underlying t = some .string) {v : AV} (h : pureA P (.slStr x' lo' hi') tm = some v) : Yld P a env o v := by
  intro w
  simp only [pureA] at h
  split at h
  · rename_i l e
    split at h
    · rename_i p q e1 e2
      cases hb : (Nat.ble p q && Nat.ble q l.length) with
      | false => rw [hb] at h; cases h
      | true =>
        rw [hb] at h; cases h
        simp only [Bool.and_eq_true, Nat.ble_eq] at hb
        obtain ⟨s, r1, r2⟩ := opd_sound hg ht hx e
        subst r2
        have hl : (s.data.toList.map (·.toNat)).length = s.size := by simp
        rw [hl] at e2 hb
        have sb := sliceBounds_run (P := P) (mx := none) (mx' := none) hg ht false h1 h2 rfl e1 e2 (m := s.size) rfl hb.1 hb.2 (Nat.le_refl _) (.inl rfl) w
        refine ⟨.string (s.extract p q), ?_, _, rfl, ?_⟩
        · have hns : ∀ m e', P.underlying t ≠ some (.array m e') := by rw [hu]; intro m e' h; cases h
          simp only [execOp, ho, Instr.sliceAt, Sem.run_bind, underlying_run hu, Result.andThen_ok, Instr.slice, r1, Option.map_none] at sb ⊢
          simp [sb]
        · have : (s.extract p q).data.toList = (s.data.toList.take q).drop p := by
            simp [List.drop_take]
          rw [this]; simp
    · cases h
  · cases h

theorem yld_slArr (hg : GL G env) (ht : TR env tm a.tmps) {t n el s : Nat} {x : Operand} {lo hi mx : Option Operand} {x' : CO} {lo' hi' mx' : Option CO} {o : Oper} (ho : o.op = .slice t x lo hi mx) (hx : opdOf G x = some x') (h1 : opdO G lo = some lo') (h2 : opdO G hi = some hi') (h3 : opdO G mx = some mx')
    (hu : P.underlying t = some (.array n el) ∨ ∃ ar, P.underlying t = some (.pointer ar) ∧ P.underlying ar = some (.array n el)) (hs : tySize P el = some s) (hmx : mx = none ∨ hi ≠ none) {v : AV} (h : pureA P (.slArr n s x' lo' hi' mx') tm = some v) : Yld P a env o v := by
  intro w
  simp only [pureA] at h
  split at h
  · rename_i id off e
    split at h
    · rename_i p q m e1 e2 e3
      cases hb : (Nat.ble p q && Nat.ble q m && Nat.ble m n) with
      | false => rw [hb] at h; cases h
      | true =>
        rw [hb] at h; cases h
        obtain ⟨b1, b2, b3⟩ := conj3 hb
        simp only [Nat.ble_eq] at b1 b2 b3
        obtain ⟨L, r1, r2⟩ := opd_sound hg ht hx e
        have sb := sliceBounds_run (P := P) hg ht false h1 h2 h3 e1 e2 e3 b1 b2 b3 hmx w
        refine ⟨.slice (some ⟨L.b, L.base + (bif Nat.beq m p then off else Nat.add off (Nat.mul p s)), none⟩) (q - p) (m - p), ?_, L, _, r1, rfl, rfl⟩
        have ea : (if m = p then (⟨L.b, L.base + off, none⟩ : Addr) else (⟨L.b, L.base + off, none⟩ : Addr).add (p * s)) = ⟨L.b, L.base + (bif Nat.beq m p then off else Nat.add off (Nat.mul p s)), none⟩ := by
          by_cases hmp : m = p
          · subst hmp; simp
          · have : Nat.beq m p = false := by cases hq : Nat.beq m p with | false => rfl | true => exact absurd (Nat.eq_of_beq_eq_true hq) hmp
            rw [this, if_neg hmp, add_none]
            show _ = (⟨L.b, L.base + (off + p * s), none⟩ : Addr)
            rw [Nat.add_assoc]
        rcases hu with hu | ⟨ar, hu, hu'⟩
        · simp only [execOp, ho, Instr.sliceAt, Sem.run_bind, underlying_run hu, Result.andThen_ok, r2, Instr.sureAddr, Sem.run_pure, sb, sizeOf_run hs, ea]
        · simp only [execOp, ho, Instr.sliceAt, Instr.slice, Sem.run_bind, underlying_run hu, underlying_run hu', Result.andThen_ok, r2, asAddr, Sem.run_pure, sb, sizeOf_run hs, ea]
    · cases h
  · cases h

theorem yld_asC (hg : GL G env) (ht : TR env tm a.tmps) {t xt : Nat} {ok : Bool} {x : Operand} {x' : CO} {z : Option AV} {o : Oper} (ho : o.op = .typeAssert x xt t ok) (hx : opdOf G x = some x') (hu : ∃ d, P.underlying t = some d ∧ ∀ m, d ≠ .interface m)
    (hz : (ok = true ∧ ∃ y, tyZero P t = some y ∧ z = some y) ∨ (ok = false ∧ z = none)) {v : AV} (h : pureA P (.asC t z x') tm = some v) : Yld P a env o v := by
  intro w
  obtain ⟨d, hd, hn⟩ := hu
  have noI : ∀ {α : Type} (f : Array (String × TypeId) → α) (g : α), (match d with | .interface m => f m | _ => g) = g := by
    intro α f g; cases d <;> first | rfl | exact absurd rfl (hn _)
  simp only [pureA] at h
  split at h
  · rename_i u y e
    obtain ⟨c, r1, r2⟩ := opd_sound hg ht hx e
    cases hb : Nat.beq u t with
    | true =>
      rw [hb] at h
      cases Nat.eq_of_beq_eq_true hb
      simp only [cond_true] at h
      have run : (execOp a.eval o).run P w = .ok (.value (if ok then .tuple #[c, .bool true] else c)) w := by
        simp only [execOp, ho, Instr.typeAssert, Sem.run_bind, underlying_run hd, Result.andThen_ok, r1]
        cases d <;> first | (exact absurd rfl (hn _)) | (simp)
      rcases hz with ⟨rfl, q, hq, rfl⟩ | ⟨rfl, rfl⟩
      · cases h; exact ⟨_, by simpa using run, pair_VR r2 rfl⟩
      · cases h; exact ⟨_, by simpa using run, r2⟩
    | false =>
      rw [hb] at h
      simp only [cond_false] at h
      rcases hz with ⟨rfl, q, hq, rfl⟩ | ⟨rfl, rfl⟩
      · cases h
        obtain ⟨zv, z1, z2⟩ := zero_run hq w
        have hne : ¬ u = t := fun e => by subst e; simp at hb
        refine ⟨.tuple #[zv, .bool false], ?_, pair_VR (z2 env) rfl⟩
        simp only [execOp, ho, Instr.typeAssert, Sem.run_bind, underlying_run hd, Result.andThen_ok, r1]
        cases d <;> first | (exact absurd rfl (hn _)) | (simp [hne, z1])
      · cases h
  · rename_i e
    have r1 := opd_sound hg ht hx e
    simp only [VR] at r1
    rcases hz with ⟨rfl, q, hq, rfl⟩ | ⟨rfl, rfl⟩
    · cases h
      obtain ⟨zv, z1, z2⟩ := zero_run hq w
      refine ⟨.tuple #[zv, .bool false], ?_, pair_VR (z2 env) rfl⟩
      simp only [execOp, ho, Instr.typeAssert, Sem.run_bind, underlying_run hd, Result.andThen_ok, r1]
      cases d <;> first | (exact absurd rfl (hn _)) | (simp [z1])
    · cases h
  · cases h

theorem least_some : ∀ {l : List String}, l ≠ [] → ∃ s, Instr.least l = some s
  | [], h => absurd rfl h
  | s :: r, _ => ⟨_, rfl⟩

theorem missing_spec {want : Array (String × TypeId)} {u : Nat} {b : Bool} (h : missing P want.toList u = some b) : ∃ i, P.info? u = some i ∧ (b = false → Instr.missingMethod want i.methods = none) ∧ (b = true → ∃ m, Instr.missingMethod want i.methods = some m) := by
  unfold missing at h
  split at h
  · rename_i i hi
    have h := Option.some.inj h
    refine ⟨i, hi, ?_, ?_⟩
    · rintro rfl
      have : (want.toList.filter fun (x : String × TypeId) => !i.methods.any fun m => m.name == x.1 && m.sig == x.2) = [] := by
        rw [List.filter_eq_nil_iff]
        intro x hx
        rw [List.any_eq_false] at h
        simpa using h x hx
      simp only [Instr.missingMethod, this]
      rfl
    · rintro rfl
      have hne : ((want.toList.filter fun (x : String × TypeId) => !i.methods.any fun m => m.name == x.1 && m.sig == x.2).map (·.1)) ≠ [] := by
        intro e
        rw [List.map_eq_nil_iff, List.filter_eq_nil_iff] at e
        rw [List.any_eq_true] at h
        obtain ⟨x, hx, hx'⟩ := h
        exact e x hx (by simpa using hx')
      simp only [Instr.missingMethod]
      generalize ((want.toList.filter fun (x : String × TypeId) => !i.methods.any fun m => m.name == x.1 && m.sig == x.2).map (·.1)) = l at hne
      cases hp : l.partition (·.contains '.') with
      | mk un ex =>
        simp only []
        cases hex : ex with
        | cons s r => exact ⟨_, rfl⟩
        | nil =>
          cases hun : un with
          | cons s r => exact ⟨_, rfl⟩
          | nil =>
            exfalso
            have : l = [] := by
              rw [List.partition_eq_filter_filter] at hp
              rw [hex, hun] at hp
              simp only [Prod.mk.injEq] at hp
              obtain ⟨p1, p2⟩ := hp
              cases l with
              | nil => rfl
              | cons s r =>
                rw [List.filter_eq_nil_iff] at p1 p2
                have a1 := p1 s (by simp); have a2 := p2 s (by simp)
                cases hq : s.contains '.' <;> simp_all
            exact hne this
  · cases h

theorem yld_asI (hg : GL G env) (ht : TR env tm a.tmps) {t xt : Nat} {ok : Bool} {x : Operand} {x' : CO} {z : Option AV} {want : Array (String × TypeId)} {o : Oper} (ho : o.op = .typeAssert x xt t ok) (hx : opdOf G x = some x') (hu : P.underlying t = some (.interface want))
    (hz : (ok = true ∧ ∃ y, tyZero P t = some y ∧ z = some y) ∨ (ok = false ∧ z = none)) {v : AV} (h : pureA P (.asI want.toList z x') tm = some v) : Yld P a env o v := by
  intro w
  simp only [pureA] at h
  split at h
  · rename_i u y e
    obtain ⟨c, r1, r2⟩ := opd_sound hg ht hx e
    have rI : VR env (.iface u y) (.iface u c) := ⟨c, rfl, r2⟩
    split at h
    · rename_i hm
      obtain ⟨i, i1, i2, _⟩ := missing_spec hm
      have run : (execOp a.eval o).run P w = .ok (.value (if ok then .tuple #[.iface u c, .bool true] else .iface u c)) w := by
        simp only [execOp, ho, Instr.typeAssert, Sem.run_bind, underlying_run hu, Result.andThen_ok, r1, typeInfo, run_program, i1, Sem.run_pure, i2 rfl]
      rcases hz with ⟨rfl, q, hq, rfl⟩ | ⟨rfl, rfl⟩
      · cases h; exact ⟨_, by simpa using run, pair_VR rI rfl⟩
      · cases h; exact ⟨_, by simpa using run, rI⟩
    · rename_i hm
      obtain ⟨i, i1, _, i2⟩ := missing_spec hm
      obtain ⟨m, i3⟩ := i2 rfl
      rcases hz with ⟨rfl, q, hq, rfl⟩ | ⟨rfl, rfl⟩
      · cases h
        obtain ⟨zv, z1, z2⟩ := zero_run hq w
        refine ⟨.tuple #[zv, .bool false], ?_, pair_VR (z2 env) rfl⟩
        simp only [execOp, ho, Instr.typeAssert, Sem.run_bind, underlying_run hu, Result.andThen_ok, r1, typeInfo, run_program, i1, Sem.run_pure, i3]
        simp [z1]
      · cases h
    · cases h
  · rename_i e
    have r1 := opd_sound hg ht hx e
    simp only [VR] at r1
    rcases hz with ⟨rfl, q, hq, rfl⟩ | ⟨rfl, rfl⟩
    · cases h
      obtain ⟨zv, z1, z2⟩ := zero_run hq w
      refine ⟨.tuple #[zv, .bool false], ?_, pair_VR (z2 env) rfl⟩
      simp only [execOp, ho, Instr.typeAssert, Sem.run_bind, underlying_run hu, Result.andThen_ok, r1]
      simp [z1]
    · cases h
  · cases h
end Go.Ev

namespace Go.Ev
variable {P : Program} {G : Nat} {env : Env} {tm : T AV} {a : Act}

theorem cBuiltin_kind {b : Builtin} {ts : List Nat} {xs : List CO} {co : COp} (h : cBuiltin P b ts xs = some co) : kind co = 1 ∨ kind co = 3 := by
  unfold cBuiltin at h
  repeat' (split at h)
  all_goals first
    | (cases h; done)
    | (cases h; first | exact .inl rfl | exact .inr rfl)
    | (obtain ⟨_, _, h⟩ := o1_some h; cases h; first | exact .inl rfl | exact .inr rfl)
    | (simp only [cond_eq_ite] at h; split at h <;> cases h; exact .inr rfl)

set_option maxHeartbeats 4000000 in
theorem pure_sound (hg : GL G env) (ht : TR env tm a.tmps) {o : Oper} {co : COp} (hc : cOp P G o.op = some co) (hk : kind co = 0) {v : AV} (h : pureA P co tm = some v) : Yld P a env o v := by
  cases ho : o.op with
  | move x => exact yld_move hg ht (.inl ho) hc h
  | assign x => exact yld_move hg ht (.inr ho) hc h
  | pick x y z => exact yld_pick hg ht ho hc h
  | binOp op t x y u => exact yld_bin hg ht ho hc h
  | unOp op t x => exact yld_un hg ht ho hc h
  | nilCheck x => exact yld_nilchk hg ht ho hc h
  | makeInterface t x => exact yld_iface hg ht ho hc h
  | makeFunc f p q => exact yld_func hg ht ho hc h
  | fieldAddr s x f => exact yld_faddr hg ht ho hc h
  | field t x f => exact yld_field hg ht ho hc h
  | indexAddr t x i => exact yld_idxA hg ht ho hc h
  | index t x i => exact yld_index hg ht ho hc h
  | build t ps => exact yld_build hg ht ho hc h
  | extract x i => exact yld_extract hg ht ho hc h
  | convert s d x =>
    rw [ho] at hc
    simp only [cOp] at hc
    obtain ⟨x', hx, e⟩ := o1_some hc
    unfold cConvert at e
    split at e
    · rename_i j k hs hd; cases e; exact yld_toInt hg ht ho hx ⟨j, hs⟩ hd h
    · cases e; cases hk
    · cases e; cases hk
    · split at e <;> first | (cases e; cases hk; done) | (cases e; done)
    · split at e <;> first | (cases e; cases hk; done) | (cases e; done)
    · split at e <;> first | (cases e; cases hk; done) | (cases e; done)
    · split at e <;> first | (cases e; cases hk; done) | (cases e; done)
    · cases e
  | slice t x lo hi mx =>
    rw [ho] at hc
    simp only [cOp] at hc
    obtain ⟨x', hx, e⟩ := o1_some hc
    obtain ⟨lo', h1, e⟩ := o1_some e
    obtain ⟨hi', h2, e⟩ := o1_some e
    obtain ⟨mx', h3, e⟩ := o1_some e
    cases hm : (mx'.isSome && !hi'.isSome) with
    | true => rw [hm] at e; cases e
    | false =>
      rw [hm] at e
      simp only [cond_false] at e
      have hmx : mx = none ∨ hi ≠ none := by
        rcases opdO_some h3 with ⟨q, _⟩ | ⟨y, d, q, r, _⟩
        · exact .inl q
        · rcases opdO_some h2 with ⟨q', r'⟩ | ⟨y', d', q', r', _⟩
          · rw [r, r'] at hm; cases hm
          · exact .inr (by rw [q']; intro e; cases e)
      split at e
      · rename_i hu
        cases hms : mx'.isSome with
        | true => rw [hms] at e; cases e
        | false =>
          rw [hms] at e; cases e
          rcases opdO_some h3 with ⟨q, _⟩ | ⟨y, d, q, r, _⟩
          · subst q; exact yld_slStr hg ht ho hx h1 h2 hu h
          · rw [r] at hms; cases hms
      · rename_i el hu
        obtain ⟨s, hs, e⟩ := o1_some e
        cases e; cases hk
      · rename_i n el hu
        obtain ⟨s, hs, e⟩ := o1_some e
        cases e
        exact yld_slArr hg ht ho hx h1 h2 h3 (.inl hu) hs hmx h
      · rename_i ar hu
        obtain ⟨⟨n, el, s⟩, hs, e⟩ := o1_some e
        simp only at e
        cases e
        unfold tyArr at hs
        split at hs
        · rename_i n' e' hu'
          split at hs
          · rename_i s' hs'
            cases hs
            exact yld_slArr hg ht ho hx h1 h2 h3 (.inr ⟨ar, hu, hu'⟩) hs' hmx h
          · cases hs
        · cases hs
      · cases e
  | typeAssert x xt t ok =>
    rw [ho] at hc
    simp only [cOp] at hc
    obtain ⟨x', hx, e⟩ := o1_some hc
    split at e
    · rename_i want hu
      cases ok with
      | true => obtain ⟨z, hz, e⟩ := o1_some e; cases e; exact yld_asI hg ht ho hx hu (.inl ⟨rfl, z, hz, rfl⟩) h
      | false => cases e; exact yld_asI hg ht ho hx hu (.inr ⟨rfl, rfl⟩) h
    · rename_i d hn hu
      have hd : ∃ d, P.underlying t = some d ∧ ∀ m, d ≠ .interface m := ⟨d, hu, fun m hm => hn m (by rw [← hm])⟩
      cases ok with
      | true => obtain ⟨z, hz, e⟩ := o1_some e; cases e; exact yld_asC hg ht ho hx hd (.inl ⟨rfl, z, hz, rfl⟩) h
      | false => cases e; exact yld_asC hg ht ho hx hd (.inr ⟨rfl, rfl⟩) h
    · cases e
  | call c =>
    exfalso
    rw [ho] at hc
    simp only [cOp] at hc
    obtain ⟨xs, _, e⟩ := o1_some hc
    split at e
    · rcases cBuiltin_kind e with q | q <;> rw [hk] at q <;> cases q
    · obtain ⟨f, _, e⟩ := o1_some e; cases e; cases hk
    · obtain ⟨f, _, e⟩ := o1_some e; cases e; cases hk
  | load t x =>
    exfalso
    rw [ho] at hc
    simp only [cOp] at hc
    obtain ⟨x', _, e⟩ := o1_some hc
    obtain ⟨g, _, e⟩ := o1_some e
    cases g
    · cases e; cases hk
    · obtain ⟨n, _, e⟩ := o1_some e; cases e; cases hk
  | lookup t m k ok =>
    exfalso
    rw [ho] at hc
    simp only [cOp] at hc
    split at hc
    · obtain ⟨_, _, e⟩ := o1_some hc
      obtain ⟨_, _, e⟩ := o1_some e
      obtain ⟨_, _, e⟩ := o1_some e
      obtain ⟨_, _, e⟩ := o1_some e
      cases e; cases hk
    · cases hc
  | alloc t =>
    exfalso
    rw [ho] at hc
    simp only [cOp] at hc
    obtain ⟨_, _, e⟩ := o1_some hc
    cases e; cases hk
  | box t x =>
    exfalso
    rw [ho] at hc
    simp only [cOp] at hc
    obtain ⟨_, _, e⟩ := o1_some hc
    cases e; cases hk
  | buildSlice t n ps =>
    exfalso
    rw [ho] at hc
    simp only [cOp] at hc
    obtain ⟨es, _, e⟩ := o1_some hc
    obtain ⟨z, _, e⟩ := o1_some e
    obtain ⟨l, _, e⟩ := o1_some e
    cases hb : (Nat.beq z.len es.2 && Nat.ble (Nat.mul n es.2) 100000 && Nat.blt 0 es.2) <;> rw [hb] at e <;> cases e
    cases hk
  | makeMap t r =>
    exfalso
    rw [ho] at hc
    simp only [cOp] at hc
    split at hc
    · cases hc; cases hk
    · split at hc
      · cases hc; cases hk
      · cases hc
    · cases hc
  | makeSlice t l c =>
    exfalso
    rw [ho] at hc
    simp only [cOp] at hc
    obtain ⟨es, _, e⟩ := o1_some hc
    obtain ⟨z, _, e⟩ := o1_some e
    obtain ⟨l, _, e⟩ := o1_some e
    obtain ⟨l, _, e⟩ := o1_some e
    cases hb : (Nat.beq z.len es.2 && smallBytes P es.1 && Nat.blt 0 es.2) <;> rw [hb] at e <;> cases e
    cases hk
  | store t x y =>
    exfalso
    rw [ho] at hc
    simp only [cOp] at hc
    obtain ⟨_, _, e⟩ := o1_some hc
    obtain ⟨_, _, e⟩ := o1_some e
    obtain ⟨_, _, e⟩ := o1_some e
    cases e; cases hk
  | mapUpdate t m k x =>
    exfalso
    rw [ho] at hc
    simp only [cOp] at hc
    obtain ⟨_, _, e⟩ := o1_some hc
    obtain ⟨_, _, e⟩ := o1_some e
    obtain ⟨_, _, e⟩ := o1_some e
    obtain ⟨_, _, e⟩ := o1_some e
    cases e; cases hk
  | insert t m k x =>
    exfalso
    rw [ho] at hc
    simp only [cOp] at hc
    obtain ⟨_, _, e⟩ := o1_some hc
    obtain ⟨_, _, e⟩ := o1_some e
    obtain ⟨_, _, e⟩ := o1_some e
    obtain ⟨_, _, e⟩ := o1_some e
    cases e; cases hk
  | range t x =>
    exfalso
    rw [ho] at hc
    simp only [cOp] at hc
    obtain ⟨_, _, e⟩ := o1_some hc
    split at e
    · cases e; cases hk
    · cases e; cases hk
    · cases e
  | next x s =>
    exfalso
    rw [ho] at hc
    simp only [cOp] at hc
    obtain ⟨_, _, e⟩ := o1_some hc
    cases e; cases hk
  | defer c =>
    exfalso
    rw [ho] at hc
    simp only [cOp] at hc
    obtain ⟨_, _, e⟩ := o1_some hc
    split at e
    · obtain ⟨_, _, e⟩ := o1_some e; cases e; cases hk
    · cases e
  | _ =>
    exfalso
    rw [ho] at hc
    simp only [cOp] at hc
    cases hc
end Go.Ev
