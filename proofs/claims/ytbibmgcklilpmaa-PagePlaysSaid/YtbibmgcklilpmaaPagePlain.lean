/- The plain facts on pages: numbers of bytes, versions, slots. No condition. -/
import Derived.Test.YtbibmgcklilpmaaBase
namespace Go.Lap

/-- A number of n bytes from off on, the lowest first. -/
def leNum (g : Nat → Nat) : Nat → Nat → Nat
  | _, 0 => 0
  | off, n + 1 => g off + 256 * leNum g (off + 1) n

theorem leNum_lt {g : Nat → Nat} (hg : ∀ i, g i < 256) : ∀ n off, leNum g off n < 256 ^ n
  | 0, _ => by simp [leNum]
  | n + 1, off => by
    have := leNum_lt hg n (off + 1)
    have := hg off
    rw [leNum, Nat.pow_succ]
    omega

theorem leNum_congr {g g' : Nat → Nat} : ∀ n off, (∀ i, off ≤ i → i < off + n → g i = g' i) → leNum g off n = leNum g' off n
  | 0, _, _ => rfl
  | n + 1, off, h => by
    rw [leNum, leNum, h off (Nat.le_refl _) (by omega), leNum_congr n (off + 1) (fun i h1 h2 => h i (by omega) (by omega))]

/-- A number as n bytes from off on. -/
def putN (g : Nat → Nat) (off n x : Nat) : Nat → Nat := fun j => if off ≤ j ∧ j < off + n then x / 256 ^ (j - off) % 256 else g j

theorem putN_lt {g : Nat → Nat} (hg : ∀ i, g i < 256) (off n x : Nat) : ∀ i, putN g off n x i < 256 := by
  intro i
  unfold putN
  split
  · exact Nat.mod_lt _ (by omega)
  · exact hg i

theorem putN_out {g : Nat → Nat} {off n x j : Nat} (h : j < off ∨ off + n ≤ j) : putN g off n x j = g j := by
  unfold putN
  rw [if_neg (by omega)]

theorem leNum_ofFn (f : Nat → Nat) : ∀ n off x, (∀ i, i < n → f (off + i) = x / 256 ^ i % 256) → x < 256 ^ n → leNum f off n = x
  | 0, _, x, _, h => by simp at h; simp [leNum, h]
  | n + 1, off, x, h, hx => by
    rw [Nat.pow_succ] at hx
    rw [leNum, leNum_ofFn f n (off + 1) (x / 256) (fun i hi => ?_) (by omega)]
    · have := h 0 (by omega)
      simp at this
      omega
    · have := h (i + 1) (by omega)
      rw [show off + 1 + i = off + (i + 1) by omega, this, Nat.pow_succ, Nat.mul_comm (256 ^ i) 256, ← Nat.div_div_eq_div_mul]

theorem leNum_putN {g : Nat → Nat} {off n x : Nat} (hx : x < 256 ^ n) : leNum (putN g off n x) off n = x := by
  refine leNum_ofFn _ n off x (fun i hi => ?_) hx
  unfold putN
  rw [if_pos (by omega), Nat.add_sub_cancel_left]

theorem leNum_putN_out {g : Nat → Nat} {off n x off' n' : Nat} (h : off' + n' ≤ off ∨ off + n ≤ off') : leNum (putN g off n x) off' n' = leNum g off' n' :=
  leNum_congr _ _ (fun i h1 h2 => putN_out (by omega))

/-- The bytes f from off on, so many. -/
def layF (g : Nat → Nat) (off n : Nat) (f : Nat → Nat) : Nat → Nat := fun j => if off ≤ j ∧ j < off + n then f (j - off) else g j

theorem layF_out {g f : Nat → Nat} {off n j : Nat} (h : j < off ∨ off + n ≤ j) : layF g off n f j = g j := by
  unfold layF
  rw [if_neg (by omega)]

theorem layF_in {g f : Nat → Nat} {off n j : Nat} (h : j < n) : layF g off n f (off + j) = f j := by
  unfold layF
  rw [if_pos (by omega), Nat.add_sub_cancel_left]

theorem layF_lt {g f : Nat → Nat} (hg : ∀ i, g i < 256) (off n : Nat) (hf : ∀ i, i < n → f i < 256) : ∀ i, layF g off n f i < 256 := by
  intro i
  unfold layF
  split
  · exact hf _ (by omega)
  · exact hg i

theorem leNum_layF_out {g f : Nat → Nat} {off n off' n' : Nat} (h : off' + n' ≤ off ∨ off + n ≤ off') : leNum (layF g off n f) off' n' = leNum g off' n' :=
  leNum_congr _ _ (fun i h1 h2 => layF_out (by omega))

/-- A number of no bytes is nought. -/
theorem leNum_zero {g : Nat → Nat} : ∀ n off, (∀ i, off ≤ i → i < off + n → g i = 0) → leNum g off n = 0
  | 0, _, _ => rfl
  | n + 1, off, h => by
    rw [leNum, h off (Nat.le_refl _) (by omega), leNum_zero n (off + 1) (fun i h1 h2 => h i (by omega) (by omega))]

/-- A version. -/
structure Tup where
  row : Nat
  xmin : Nat
  xmax : Nat
  pg : Int
  sl : Int
  data : List Nat

/-- Where no version may lie. -/
def farB (pg sl : Int) : Bool := if pg = -1 ∨ sl = -1 then decide (pg ≠ sl) else decide (pg < 0 ∨ 65536 ≤ pg ∨ sl < 0 ∨ 65535 ≤ sl)

def Tup.rightB (t : Tup) : Bool := decide (t.row ≤ 1099511627776 ∧ t.xmin ≤ 1099511627776 ∧ t.xmax ≤ 1099511627776 ∧ farB t.pg t.sl = false ∧ t.data.length ≤ 200)

structure Tup.Ok (t : Tup) : Prop where
  right : t.rightB = true
  bytes : ∀ x ∈ t.data, x < 256

def Tup.size (t : Tup) : Nat := 30 + t.data.length

/-- The thirty bytes ahead of the data. -/
def Tup.hdr (t : Tup) : Nat → Nat := putN (putN (putN (putN (putN (fun _ => 0) 0 8 t.row) 8 8 t.xmin) 16 8 t.xmax) 24 4 (t.pg + 1).toNat) 28 2 (t.sl + 1).toNat

/-- All its bytes. -/
def Tup.ver (t : Tup) (j : Nat) : Nat := if j < 30 then t.hdr j else t.data.getD (j - 30) 0

theorem Tup.ver_lt {t : Tup} (h : ∀ x ∈ t.data, x < 256) : ∀ j, t.ver j < 256 := by
  intro j
  unfold Tup.ver
  split
  · exact putN_lt (putN_lt (putN_lt (putN_lt (putN_lt (fun _ => by omega) _ _ _) _ _ _) _ _ _) _ _ _) _ _ _ _
  · rw [List.getD_eq_getElem?_getD]
    rcases hx : t.data[j - 30]? with _ | x
    · simp
    · exact h x (List.mem_of_getElem? hx)

theorem Tup.far_bounds {pg sl : Int} (h : farB pg sl = false) : -1 ≤ pg ∧ pg ≤ 65535 ∧ -1 ≤ sl ∧ sl ≤ 65534 := by
  unfold farB at h
  split at h
  · have := of_decide_eq_false h
    omega
  · have := of_decide_eq_false h
    omega

theorem Tup.Ok.bounds {t : Tup} (h : t.Ok) : t.row ≤ 1099511627776 ∧ t.xmin ≤ 1099511627776 ∧ t.xmax ≤ 1099511627776 ∧ -1 ≤ t.pg ∧ t.pg ≤ 65535 ∧ -1 ≤ t.sl ∧ t.sl ≤ 65534 ∧ t.data.length ≤ 200 := by
  obtain ⟨h1, h2, h3, h4, h5⟩ := of_decide_eq_true h.right
  have := Tup.far_bounds h4
  omega

/-- What a version's bytes tell, where they lie. -/
theorem Tup.read {t : Tup} (h : t.Ok) {g : Nat → Nat} {f : Nat} (hg : ∀ j, j < t.size → g (f + j) = t.ver j) :
    leNum g f 8 = t.row ∧ leNum g (f + 8) 8 = t.xmin ∧ leNum g (f + 16) 8 = t.xmax ∧ leNum g (f + 24) 4 = (t.pg + 1).toNat ∧ leNum g (f + 28) 2 = (t.sl + 1).toNat := by
  have hb := h.bounds
  have hs : 30 ≤ t.size := by unfold Tup.size; omega
  have key : ∀ o n, o + n ≤ 30 → leNum g (f + o) n = leNum t.hdr o n := by
    intro o n hon
    have e : ∀ n o, o + n ≤ 30 → leNum g (f + o) n = leNum t.hdr o n := by
      intro n
      induction n with
      | zero => intro o _; rfl
      | succ n ih =>
        intro o ho
        have h1 := hg o (by omega)
        rw [Tup.ver, if_pos (by omega)] at h1
        rw [leNum, leNum, h1, show f + o + 1 = f + (o + 1) by omega, ih (o + 1) (by omega)]
    exact e n o hon
  have k0 := key 0 8 (by omega)
  rw [Nat.add_zero] at k0
  refine ⟨?_, ?_, ?_, ?_, ?_⟩
  · rw [k0, Tup.hdr, leNum_putN_out (by omega), leNum_putN_out (by omega), leNum_putN_out (by omega), leNum_putN_out (by omega), leNum_putN (by omega)]
  · rw [key 8 8 (by omega), Tup.hdr, leNum_putN_out (by omega), leNum_putN_out (by omega), leNum_putN_out (by omega), leNum_putN (by omega)]
  · rw [key 16 8 (by omega), Tup.hdr, leNum_putN_out (by omega), leNum_putN_out (by omega), leNum_putN (by omega)]
  · rw [key 24 4 (by omega), Tup.hdr, leNum_putN_out (by omega), leNum_putN (by omega)]
  · rw [key 28 2 (by omega), Tup.hdr, leNum_putN (by omega)]

/-- A slot: free, or where a version lies. -/
abbrev Slot := Option (Nat × Tup)

def Slot.from_ : Slot → Nat
  | none => 0
  | some (f, _) => f
def Slot.size : Slot → Nat
  | none => 0
  | some (_, t) => t.size

theorem Tup.size_pos (t : Tup) : 30 ≤ t.size := by unfold Tup.size; omega

/-- These bytes are a page's with these slots. -/
structure Pg (g : Nat → Nat) (L : List Slot) (start : Nat) : Prop where
  lt : ∀ i, g i < 256
  cnt : leNum g 0 2 = L.length
  st : leNum g 2 2 = start
  fit : 4 + 4 * L.length ≤ start
  le : start ≤ 512
  ptr : ∀ i s, L[i]? = some s → leNum g (4 + 4 * i) 2 = Slot.from_ s ∧ leNum g (6 + 4 * i) 2 = Slot.size s
  ver : ∀ (i f : Nat) (t : Tup), L[i]? = some (some (f, t)) → start ≤ f ∧ f + t.size ≤ 512 ∧ t.Ok ∧ ∀ j, j < t.size → g (f + j) = t.ver j
  sep : ∀ (i j f : Nat) (t : Tup) (f' : Nat) (t' : Tup), i ≠ j → L[i]? = some (some (f, t)) → L[j]? = some (some (f', t')) → f + t.size ≤ f' ∨ f' + t'.size ≤ f
  zero : ∀ x, 4 + 4 * L.length ≤ x → x < 512 → (∀ (i f : Nat) (t : Tup), L[i]? = some (some (f, t)) → x < f ∨ f + t.size ≤ x) → g x = 0

theorem Pg.new : Pg (putN (putN (fun _ => 0) 0 2 0) 2 2 512) [] 512 := by
  refine ⟨putN_lt (putN_lt (fun _ => by omega) _ _ _) _ _ _, ?_, leNum_putN (by omega), by simp, Nat.le_refl _, by simp, by simp, by simp, fun x h1 h2 _ => ?_⟩
  · rw [leNum_putN_out (by omega), leNum_putN (by omega)]; rfl
  · simp at h1
    rw [putN_out (by omega), putN_out (by omega)]

/-- The bytes behind a version that is laid in a slot. -/
def insG (g : Nat → Nat) (slot count from_ : Nat) (t : Tup) : Nat → Nat :=
  putN (putN (layF (putN (putN g 0 2 count) 2 2 from_) from_ t.size t.ver) (4 + 4 * slot) 2 from_) (6 + 4 * slot) 2 t.size

/-- The slots behind it. -/
def insL (L : List Slot) (slot : Nat) (s : Slot) : List Slot := if slot = L.length then L ++ [s] else L.set slot s

theorem insL_length (L : List Slot) (slot : Nat) (s : Slot) (h : slot ≤ L.length) : (insL L slot s).length = max L.length (slot + 1) := by
  unfold insL
  split
  · simp; omega
  · simp; omega

theorem insL_get (L : List Slot) (slot : Nat) (s : Slot) (h : slot ≤ L.length) (i : Nat) : (insL L slot s)[i]? = if i = slot then some s else L[i]? := by
  unfold insL
  split
  · rename_i e
    subst e
    by_cases hi : i = L.length
    · subst hi; simp
    · rw [if_neg hi, List.getElem?_append]
      split
      · rfl
      · rw [List.getElem?_eq_none (by simp; omega), List.getElem?_eq_none (by omega)]
  · rw [List.getElem?_set]
    by_cases hi : i = slot
    · subst hi; simp [show i < L.length by omega]
    · simp [hi, show ¬ slot = i by omega]

theorem Pg.insert {g : Nat → Nat} {L : List Slot} {start slot : Nat} {t : Tup} (h : Pg g L start) (hs : slot ≤ L.length) (hfree : ∀ s, L[slot]? = some s → s = none) (ht : t.Ok)
    (hroom : 4 + 4 * max L.length (slot + 1) + t.size ≤ start) :
    Pg (insG g slot (max L.length (slot + 1)) (start - t.size) t) (insL L slot (some (start - t.size, t))) (start - t.size) := by
  have hlen := insL_length L slot (some (start - t.size, t)) hs
  have hget := insL_get L slot (some (start - t.size, t)) hs
  have hb := ht.bounds
  have hts : t.size = 30 + t.data.length := rfl
  have hle := h.le
  have hfit := h.fit
  generalize hf : start - t.size = fr at *
  generalize hc : max L.length (slot + 1) = c at *
  have lt1 : ∀ i, insG g slot c fr t i < 256 := putN_lt (putN_lt (layF_lt (putN_lt (putN_lt h.lt _ _ _) _ _ _) _ _ (fun i _ => Tup.ver_lt ht.bytes i)) _ _ _) _ _ _
  have out : ∀ x, 4 ≤ x → (x < 4 + 4 * slot ∨ 8 + 4 * slot ≤ x) → (x < fr ∨ fr + t.size ≤ x) → insG g slot c fr t x = g x := by
    intro x h1 h2 h3
    unfold insG
    rw [putN_out (by omega), putN_out (by omega), layF_out h3, putN_out (by omega), putN_out (by omega)]
  refine ⟨lt1, ?_, ?_, by omega, by omega, ?_, ?_, ?_, ?_⟩
  · unfold insG
    rw [leNum_putN_out (by omega), leNum_putN_out (by omega), leNum_layF_out (by omega), leNum_putN_out (by omega), leNum_putN (by omega), hlen]
  · unfold insG
    rw [leNum_putN_out (by omega), leNum_putN_out (by omega), leNum_layF_out (by omega), leNum_putN (by omega)]
  · intro i s hi
    rw [hget] at hi
    by_cases e : i = slot
    · subst e
      rw [if_pos rfl] at hi
      injection hi with hi
      subst hi
      unfold insG
      constructor
      · rw [leNum_putN_out (by omega), leNum_putN (by omega)]; rfl
      · rw [leNum_putN (by omega)]; rfl
    · rw [if_neg e] at hi
      have hil : i < L.length := (List.getElem?_eq_some_iff.1 hi).1
      have := h.ptr i s hi
      constructor
      · rw [leNum_congr (g' := g) _ _ (fun x h1 h2 => out x (by omega) (by omega) (by omega))]; exact this.1
      · rw [leNum_congr (g' := g) _ _ (fun x h1 h2 => out x (by omega) (by omega) (by omega))]; exact this.2
  · intro i f t' hi
    rw [hget] at hi
    by_cases e : i = slot
    · subst e
      rw [if_pos rfl] at hi
      injection hi with hi
      injection hi with hi
      injection hi with h1 h2
      subst h1 h2
      refine ⟨Nat.le_refl _, by omega, ht, fun j hj => ?_⟩
      unfold insG
      rw [putN_out (by omega), putN_out (by omega), layF_in hj]
    · rw [if_neg e] at hi
      obtain ⟨a, b, c', d⟩ := h.ver i f t' hi
      refine ⟨by omega, b, c', fun j hj => ?_⟩
      rw [out _ (by omega) (by omega) (by omega)]
      exact d j hj
  · intro i j f t1 f' t2 hij hi hj
    rw [hget] at hi hj
    by_cases e : i = slot
    · by_cases e' : j = slot
      · omega
      · rw [if_pos e] at hi
        rw [if_neg e'] at hj
        injection hi with hi
        injection hi with hi
        injection hi with h1 h2
        subst h1 h2
        have := (h.ver j f' t2 hj).1
        omega
    · rw [if_neg e] at hi
      by_cases e' : j = slot
      · rw [if_pos e'] at hj
        injection hj with hj
        injection hj with hj
        injection hj with h1 h2
        subst h1 h2
        have := (h.ver i f t1 hi).1
        omega
      · rw [if_neg e'] at hj
        exact h.sep i j f t1 f' t2 hij hi hj
  · intro x h1 h2 h3
    rw [hlen] at h1
    have h4 := h3 slot fr t (by rw [hget, if_pos rfl])
    rw [out x (by omega) (by omega) h4]
    refine h.zero x (by omega) h2 (fun i f t' hi => h3 i f t' ?_)
    rw [hget, if_neg (fun e => ?_)]
    · exact hi
    · subst e
      cases hfree _ hi

end Go.Lap
