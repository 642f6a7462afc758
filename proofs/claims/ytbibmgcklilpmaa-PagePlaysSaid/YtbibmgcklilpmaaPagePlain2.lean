/- The plain facts on pages, more: a version that is stamped, freed; all that are moved. No condition. -/
import Derived.Test.YtbibmgcklilpmaaPagePlain
namespace Go.Lap

/-- A version with another end. -/
def Tup.stamp (t : Tup) (xmax : Nat) (pg sl : Int) : Tup := { t with xmax := xmax, pg := pg, sl := sl }

theorem Slot.stamp_same (f : Nat) (t : Tup) (xmax : Nat) (pg sl : Int) : Slot.from_ (some (f, t.stamp xmax pg sl)) = Slot.from_ (some (f, t)) ∧ Slot.size (some (f, t.stamp xmax pg sl)) = Slot.size (some (f, t)) := ⟨rfl, rfl⟩

theorem Tup.stamp_size (t : Tup) (xmax : Nat) (pg sl : Int) : (t.stamp xmax pg sl).size = t.size := rfl

theorem Tup.stamp_ok {t : Tup} (h : t.Ok) {xmax : Nat} {pg sl : Int} (hx : xmax ≤ 1099511627776) (hf : farB pg sl = false) : (t.stamp xmax pg sl).Ok := by
  obtain ⟨h1, h2, h3, h4, h5⟩ := of_decide_eq_true h.right
  exact ⟨decide_eq_true ⟨h1, h2, hx, hf, h5⟩, h.bytes⟩

def stampG (g : Nat → Nat) (f xmax : Nat) (pg sl : Int) : Nat → Nat := putN (putN (putN g (f + 16) 8 xmax) (f + 24) 4 (pg + 1).toNat) (f + 28) 2 (sl + 1).toNat

theorem stampG_out {g : Nat → Nat} {f xmax : Nat} {pg sl : Int} {x : Nat} (h : x < f + 16 ∨ f + 30 ≤ x) : stampG g f xmax pg sl x = g x := by
  unfold stampG
  rw [putN_out (by omega), putN_out (by omega), putN_out (by omega)]

theorem stampG_in {g : Nat → Nat} {f xmax : Nat} {pg sl : Int} {t : Tup} (hg : ∀ j, j < t.size → g (f + j) = t.ver j) (j : Nat) (hj : j < t.size) : stampG g f xmax pg sl (f + j) = (t.stamp xmax pg sl).ver j := by
  have h0 := hg j hj
  by_cases h1 : j < 16 ∨ 30 ≤ j
  · rw [stampG_out (by omega), h0]
    unfold Tup.ver
    rcases h1 with h1 | h1
    · rw [if_pos (by omega), if_pos (by omega)]
      unfold Tup.hdr Tup.stamp
      dsimp only
      rw [putN_out (g := putN _ 24 4 (t.pg + 1).toNat) (by omega), putN_out (g := putN _ 16 8 t.xmax) (by omega), putN_out (off := 16) (x := t.xmax) (by omega), putN_out (x := (sl + 1).toNat) (by omega), putN_out (x := (pg + 1).toNat) (by omega), putN_out (x := xmax) (by omega)]
    · rw [if_neg (by omega), if_neg (by omega)]; rfl
  · rw [Tup.ver, if_pos (by omega)]
    unfold stampG Tup.hdr Tup.stamp
    dsimp only
    by_cases h2 : 28 ≤ j
    · unfold putN
      rw [if_pos (by omega), if_pos (by omega), show f + j - (f + 28) = j - 28 by omega]
    · rw [putN_out (by omega), putN_out (g := putN _ 24 4 _) (by omega)]
      by_cases h3 : 24 ≤ j
      · unfold putN
        rw [if_pos (by omega), if_pos (by omega), show f + j - (f + 24) = j - 24 by omega]
      · rw [putN_out (by omega), putN_out (g := putN _ 16 8 _) (by omega)]
        unfold putN
        rw [if_pos (by omega), if_pos (by omega), show f + j - (f + 16) = j - 16 by omega]

theorem set_get (L : List Slot) (i : Nat) (s : Slot) (hi : i < L.length) (k : Nat) : (L.set i s)[k]? = if k = i then some s else L[k]? := by
  rw [List.getElem?_set]
  by_cases hk : k = i
  · subst hk; simp [hi]
  · simp [hk, show ¬ i = k by omega]

theorem Pg.stamp {g : Nat → Nat} {L : List Slot} {start i f : Nat} {t : Tup} (h : Pg g L start) (hi : L[i]? = some (some (f, t))) {xmax : Nat} {pg sl : Int} (hx : xmax ≤ 1099511627776) (hf : farB pg sl = false) :
    Pg (stampG g f xmax pg sl) (L.set i (some (f, t.stamp xmax pg sl))) start := by
  have hil : i < L.length := (List.getElem?_eq_some_iff.1 hi).1
  have hget := set_get L i (some (f, t.stamp xmax pg sl)) hil
  obtain ⟨v1, v2, v3, v4⟩ := h.ver i f t hi
  have hfit := h.fit
  have hsz := Tup.size_pos t
  refine ⟨putN_lt (putN_lt (putN_lt h.lt _ _ _) _ _ _) _ _ _, ?_, ?_, by rw [List.length_set]; exact hfit, h.le, ?_, ?_, ?_, ?_⟩
  · rw [leNum_congr (g' := g) _ _ (fun x h1 h2 => stampG_out (by omega)), h.cnt, List.length_set]
  · rw [leNum_congr (g' := g) _ _ (fun x h1 h2 => stampG_out (by omega)), h.st]
  · intro k s hk
    have hkl : k < L.length := by simpa using (List.getElem?_eq_some_iff.1 hk).1
    rw [hget] at hk
    have hp : leNum (stampG g f xmax pg sl) (4 + 4 * k) 2 = leNum g (4 + 4 * k) 2 ∧ leNum (stampG g f xmax pg sl) (6 + 4 * k) 2 = leNum g (6 + 4 * k) 2 :=
      ⟨leNum_congr _ _ (fun x h1 h2 => stampG_out (by omega)), leNum_congr _ _ (fun x h1 h2 => stampG_out (by omega))⟩
    rw [hp.1, hp.2]
    by_cases e : k = i
    · subst e
      rw [if_pos rfl] at hk
      injection hk with hk
      subst hk
      have := h.ptr k _ hi
      rw [(Slot.stamp_same f t xmax pg sl).1, (Slot.stamp_same f t xmax pg sl).2]
      exact this
    · rw [if_neg e] at hk
      exact h.ptr k s hk
  · intro k f' t' hk
    rw [hget] at hk
    by_cases e : k = i
    · subst e
      rw [if_pos rfl] at hk
      injection hk with hk
      injection hk with hk
      injection hk with h1 h2
      subst h1 h2
      exact ⟨v1, v2, Tup.stamp_ok v3 hx hf, fun j hj => stampG_in v4 j hj⟩
    · rw [if_neg e] at hk
      obtain ⟨u1, u2, u3, u4⟩ := h.ver k f' t' hk
      refine ⟨u1, u2, u3, fun j hj => ?_⟩
      have := h.sep k i f' t' f t e hk hi
      rw [stampG_out (by omega)]
      exact u4 j hj
  · intro a b fa ta fb tb hab ha hb
    rw [hget] at ha hb
    by_cases e : a = i
    · by_cases e' : b = i
      · omega
      · rw [if_pos e] at ha
        rw [if_neg e'] at hb
        injection ha with ha
        injection ha with ha
        injection ha with h1 h2
        subst h1 h2
        exact h.sep i b f t fb tb (by omega) hi hb
    · rw [if_neg e] at ha
      by_cases e' : b = i
      · rw [if_pos e'] at hb
        injection hb with hb
        injection hb with hb
        injection hb with h1 h2
        subst h1 h2
        exact h.sep a i fa ta f t (by omega) ha hi
      · rw [if_neg e'] at hb
        exact h.sep a b fa ta fb tb hab ha hb
  · intro x h1 h2 h3
    rw [List.length_set] at h1
    have h4 := h3 i f (t.stamp xmax pg sl) (by rw [hget, if_pos rfl])
    rw [Tup.stamp_size] at h4
    rw [stampG_out (by omega)]
    refine h.zero x h1 h2 (fun k f' t' hk => ?_)
    by_cases e : k = i
    · subst e
      rw [hi] at hk
      injection hk with hk
      injection hk with hk
      injection hk with e1 e2
      subst e1 e2
      exact h4
    · exact h3 k f' t' (by rw [hget, if_neg e]; exact hk)

/-- A slot that is freed. -/
def freeG (g : Nat → Nat) (i f size : Nat) : Nat → Nat := putN (putN (layF g f size (fun _ => 0)) (4 + 4 * i) 2 0) (6 + 4 * i) 2 0

theorem Pg.free {g : Nat → Nat} {L : List Slot} {start i f : Nat} {t : Tup} (h : Pg g L start) (hi : L[i]? = some (some (f, t))) : Pg (freeG g i f t.size) (L.set i none) start := by
  have hil : i < L.length := (List.getElem?_eq_some_iff.1 hi).1
  have hget := set_get L i none hil
  obtain ⟨v1, v2, v3, v4⟩ := h.ver i f t hi
  have hfit := h.fit
  have hle := h.le
  have out : ∀ x, (x < 4 + 4 * i ∨ 8 + 4 * i ≤ x) → (x < f ∨ f + t.size ≤ x) → freeG g i f t.size x = g x := by
    intro x h1 h2
    unfold freeG
    rw [putN_out (by omega), putN_out (by omega), layF_out h2]
  refine ⟨putN_lt (putN_lt (layF_lt h.lt _ _ (fun _ _ => by omega)) _ _ _) _ _ _, ?_, ?_, by rw [List.length_set]; exact hfit, h.le, ?_, ?_, ?_, ?_⟩
  · rw [leNum_congr (g' := g) _ _ (fun x h1 h2 => out x (by omega) (by omega)), h.cnt, List.length_set]
  · rw [leNum_congr (g' := g) _ _ (fun x h1 h2 => out x (by omega) (by omega)), h.st]
  · intro k s hk
    have hkl : k < L.length := by simpa using (List.getElem?_eq_some_iff.1 hk).1
    rw [hget] at hk
    by_cases e : k = i
    · subst e
      rw [if_pos rfl] at hk
      injection hk with hk
      subst hk
      unfold freeG
      exact ⟨by rw [leNum_putN_out (by omega), leNum_putN (by omega)]; rfl, by rw [leNum_putN (by omega)]; rfl⟩
    · rw [if_neg e] at hk
      have := h.ptr k s hk
      exact ⟨by rw [leNum_congr (g' := g) _ _ (fun x h1 h2 => out x (by omega) (by omega))]; exact this.1, by rw [leNum_congr (g' := g) _ _ (fun x h1 h2 => out x (by omega) (by omega))]; exact this.2⟩
  · intro k f' t' hk
    rw [hget] at hk
    by_cases e : k = i
    · rw [if_pos e] at hk; cases hk
    · rw [if_neg e] at hk
      obtain ⟨u1, u2, u3, u4⟩ := h.ver k f' t' hk
      refine ⟨u1, u2, u3, fun j hj => ?_⟩
      have := h.sep k i f' t' f t e hk hi
      rw [out _ (by omega) (by omega)]
      exact u4 j hj
  · intro a b fa ta fb tb hab ha hb
    rw [hget] at ha hb
    by_cases e : a = i
    · rw [if_pos e] at ha; cases ha
    · by_cases e' : b = i
      · rw [if_pos e'] at hb; cases hb
      · rw [if_neg e] at ha
        rw [if_neg e'] at hb
        exact h.sep a b fa ta fb tb hab ha hb
  · intro x h1 h2 h3
    rw [List.length_set] at h1
    by_cases hx : x < f ∨ f + t.size ≤ x
    · rw [out x (by omega) hx]
      refine h.zero x h1 h2 (fun k f' t' hk => ?_)
      by_cases e : k = i
      · subst e
        rw [hi] at hk
        injection hk with hk
        injection hk with hk
        injection hk with e1 e2
        subst e1 e2
        exact hx
      · exact h3 k f' t' (by rw [hget, if_neg e]; exact hk)
    · unfold freeG
      rw [putN_out (by omega), putN_out (by omega)]
      unfold layF
      rw [if_pos (by omega)]

/-- Slots at the end that are free are struck. -/
def trimG (g : Nat → Nat) (m n start : Nat) : Nat → Nat := putN (putN (layF g (4 + 4 * m) (4 * (n - m)) (fun _ => 0)) 0 2 m) 2 2 start

theorem Pg.trim {g : Nat → Nat} {L : List Slot} {start m : Nat} (h : Pg g L start) (hm : m ≤ L.length) (hn : ∀ k s, m ≤ k → L[k]? = some s → s = none) : Pg (trimG g m L.length start) (L.take m) start := by
  have hfit := h.fit
  have hle := h.le
  have hlen : (L.take m).length = m := by simp; omega
  have hget : ∀ k, (L.take m)[k]? = if k < m then L[k]? else none := by
    intro k
    rw [List.getElem?_take]
  have out : ∀ x, 4 ≤ x → (x < 4 + 4 * m ∨ 4 + 4 * L.length ≤ x) → trimG g m L.length start x = g x := by
    intro x h0 h1
    unfold trimG
    rw [putN_out (by omega), putN_out (by omega), layF_out (by omega)]
  refine ⟨putN_lt (putN_lt (layF_lt h.lt _ _ (fun _ _ => by omega)) _ _ _) _ _ _, ?_, ?_, by rw [hlen]; omega, h.le, ?_, ?_, ?_, ?_⟩
  · unfold trimG
    rw [leNum_putN_out (by omega), leNum_putN (by omega), hlen]
  · unfold trimG
    rw [leNum_putN (by omega)]
  · intro k s hk
    rw [hget] at hk
    by_cases e : k < m
    · rw [if_pos e] at hk
      have := h.ptr k s hk
      exact ⟨by rw [leNum_congr (g' := g) _ _ (fun x h1 h2 => out x (by omega) (by omega))]; exact this.1, by rw [leNum_congr (g' := g) _ _ (fun x h1 h2 => out x (by omega) (by omega))]; exact this.2⟩
    · rw [if_neg e] at hk; cases hk
  · intro k f t hk
    rw [hget] at hk
    by_cases e : k < m
    · rw [if_pos e] at hk
      obtain ⟨u1, u2, u3, u4⟩ := h.ver k f t hk
      refine ⟨u1, u2, u3, fun j hj => ?_⟩
      rw [out _ (by omega) (by omega)]
      exact u4 j hj
    · rw [if_neg e] at hk; cases hk
  · intro a b fa ta fb tb hab ha hb
    rw [hget] at ha hb
    by_cases e : a < m
    · by_cases e' : b < m
      · rw [if_pos e] at ha
        rw [if_pos e'] at hb
        exact h.sep a b fa ta fb tb hab ha hb
      · rw [if_neg e'] at hb; cases hb
    · rw [if_neg e] at ha; cases ha
  · intro x h1 h2 h3
    rw [hlen] at h1
    by_cases hx : 4 + 4 * L.length ≤ x
    · rw [out x (by omega) (by omega)]
      refine h.zero x hx h2 (fun k f t hk => ?_)
      by_cases e : k < m
      · exact h3 k f t (by rw [hget, if_pos e]; exact hk)
      · have := hn k _ (by omega) hk
        cases this
    · unfold trimG
      rw [putN_out (by omega), putN_out (by omega)]
      unfold layF
      rw [if_pos (by omega)]

/-- All versions to the end, in order of their slots. -/
def movStep (p : List Slot × Nat) (s : Slot) : List Slot × Nat :=
  match s with
  | none => (p.1 ++ [none], p.2)
  | some (_, t) => (p.1 ++ [some (p.2 - t.size, t)], p.2 - t.size)

def movTo (L : List Slot) : List Slot × Nat := L.foldl movStep ([], 512)

def sumS (L : List Slot) : Nat := (L.map Slot.size).sum

theorem movTo_snoc (L : List Slot) (s : Slot) : movTo (L ++ [s]) = movStep (movTo L) s := by simp [movTo, List.foldl_append]

theorem sumS_snoc (L : List Slot) (s : Slot) : sumS (L ++ [s]) = sumS L + Slot.size s := by simp [sumS]

/-- In the midst of it: i slots are done. -/
structure Mv (g g0 : Nat → Nat) (n i : Nat) (M : List Slot) (at_ : Nat) : Prop where
  lt : ∀ x, g x < 256
  len : M.length = i
  same : ∀ x, x < 4 ∨ (4 + 4 * i ≤ x ∧ x < 4 + 4 * n) → g x = g0 x
  lo : 4 + 4 * n ≤ at_
  hi : at_ ≤ 512
  ptr : ∀ k s, M[k]? = some s → leNum g (4 + 4 * k) 2 = Slot.from_ s ∧ leNum g (6 + 4 * k) 2 = Slot.size s
  ver : ∀ (k f : Nat) (t : Tup), M[k]? = some (some (f, t)) → at_ ≤ f ∧ f + t.size ≤ 512 ∧ t.Ok ∧ ∀ j, j < t.size → g (f + j) = t.ver j
  sep : ∀ (k j f : Nat) (t : Tup) (f' : Nat) (t' : Tup), k ≠ j → M[k]? = some (some (f, t)) → M[j]? = some (some (f', t')) → f + t.size ≤ f' ∨ f' + t'.size ≤ f
  zero : ∀ x, 4 + 4 * n ≤ x → x < 512 → (∀ (k f : Nat) (t : Tup), M[k]? = some (some (f, t)) → x < f ∨ f + t.size ≤ x) → g x = 0

theorem Mv.start {g : Nat → Nat} {n : Nat} (hg : ∀ x, g x < 256) (hn : 4 + 4 * n ≤ 512) : Mv (layF g (4 + 4 * n) (512 - (4 + 4 * n)) (fun _ => 0)) g n 0 [] 512 := by
  refine ⟨layF_lt hg _ _ (fun _ _ => by omega), rfl, fun x hx => layF_out (by omega), hn, Nat.le_refl _, by simp, by simp, by simp, fun x h1 h2 _ => ?_⟩
  unfold layF
  rw [if_pos (by omega)]

theorem snoc_get {α : Type} {M : List α} {s : α} {k : Nat} {x : α} (h : (M ++ [s])[k]? = some x) : (k < M.length ∧ M[k]? = some x) ∨ (k = M.length ∧ x = s) := by
  rcases Nat.lt_or_ge k M.length with e | e
  · rw [List.getElem?_append_left e] at h
    exact Or.inl ⟨e, h⟩
  · rw [List.getElem?_append_right e] at h
    rcases Nat.eq_or_lt_of_le e with e' | e'
    · rw [← e', Nat.sub_self] at h
      injection h with h
      exact Or.inr ⟨e'.symm, h.symm⟩
    · rw [List.getElem?_eq_none (by simp; omega)] at h; cases h

theorem snoc_old {α : Type} {M : List α} {s : α} {k : Nat} {x : α} (h : M[k]? = some x) : (M ++ [s])[k]? = some x := by
  rw [List.getElem?_append_left (List.getElem?_eq_some_iff.1 h).1]; exact h

theorem Mv.none {g g0 : Nat → Nat} {n i at_ : Nat} {M : List Slot} (h : Mv g g0 n i M at_) (hi : i < n) (h0 : leNum g0 (4 + 4 * i) 2 = 0 ∧ leNum g0 (6 + 4 * i) 2 = 0) : Mv g g0 n (i + 1) (M ++ [Option.none]) at_ := by
  refine ⟨h.lt, by simp [h.len], fun x hx => h.same x (by omega), h.lo, h.hi, fun k s hk => ?_, fun k f t hk => ?_, fun k j f t f' t' hkj hk hj => ?_, fun x h1 h2 h3 => h.zero x h1 h2 (fun k f t hk => h3 k f t (snoc_old hk))⟩
  · rcases snoc_get hk with ⟨_, hk⟩ | ⟨rfl, rfl⟩
    · exact h.ptr k s hk
    · rw [h.len]
      exact ⟨by rw [leNum_congr (g' := g0) _ _ (fun x h1 h2 => h.same x (by omega))]; exact h0.1, by rw [leNum_congr (g' := g0) _ _ (fun x h1 h2 => h.same x (by omega))]; exact h0.2⟩
  · rcases snoc_get hk with ⟨_, hk⟩ | ⟨_, e⟩
    · exact h.ver k f t hk
    · cases e
  · rcases snoc_get hk with ⟨_, hk⟩ | ⟨_, e⟩
    · rcases snoc_get hj with ⟨_, hj⟩ | ⟨_, e⟩
      · exact h.sep k j f t f' t' hkj hk hj
      · cases e
    · cases e

def movG (g : Nat → Nat) (i at_ : Nat) (t : Tup) : Nat → Nat := putN (putN (layF g at_ t.size t.ver) (4 + 4 * i) 2 at_) (6 + 4 * i) 2 t.size

theorem Mv.some {g g0 : Nat → Nat} {n i at_ : Nat} {M : List Slot} {t : Tup} (h : Mv g g0 n i M at_) (hi : i < n) (ht : t.Ok) (hr : 4 + 4 * n + t.size ≤ at_) :
    Mv (movG g i (at_ - t.size) t) g0 n (i + 1) (M ++ [Option.some (at_ - t.size, t)]) (at_ - t.size) := by
  have hh := h.hi
  have hb := ht.bounds
  have hts : t.size = 30 + t.data.length := rfl
  have hl := h.len
  generalize hf : at_ - t.size = fr at *
  have out : ∀ x, (x < 4 + 4 * i ∨ 8 + 4 * i ≤ x) → (x < fr ∨ fr + t.size ≤ x) → movG g i fr t x = g x := by
    intro x h1 h2
    unfold movG
    rw [putN_out (by omega), putN_out (by omega), layF_out h2]
  refine ⟨putN_lt (putN_lt (layF_lt h.lt _ _ (fun j _ => Tup.ver_lt ht.bytes j)) _ _ _) _ _ _, by simp [hl], fun x hx => ?_, by omega, by omega, fun k s hk => ?_, fun k f t' hk => ?_, fun k j f t1 f' t2 hkj hk hj => ?_, fun x h1 h2 h3 => ?_⟩
  · rw [out x (by omega) (by omega)]
    exact h.same x (by omega)
  · rcases snoc_get hk with ⟨hlt, hk⟩ | ⟨rfl, rfl⟩
    · have := h.ptr k s hk
      exact ⟨by rw [leNum_congr (g' := g) _ _ (fun x h1 h2 => out x (by omega) (by omega))]; exact this.1, by rw [leNum_congr (g' := g) _ _ (fun x h1 h2 => out x (by omega) (by omega))]; exact this.2⟩
    · rw [hl]
      unfold movG
      exact ⟨by rw [leNum_putN_out (by omega), leNum_putN (by omega)]; rfl, by rw [leNum_putN (by omega)]; rfl⟩
  · rcases snoc_get hk with ⟨hlt, hk⟩ | ⟨rfl, e⟩
    · obtain ⟨u1, u2, u3, u4⟩ := h.ver k f t' hk
      refine ⟨by omega, u2, u3, fun j hj => ?_⟩
      rw [out _ (by omega) (by omega)]
      exact u4 j hj
    · injection e with e
      injection e with e1 e2
      subst e1 e2
      refine ⟨Nat.le_refl _, by omega, ht, fun j hj => ?_⟩
      unfold movG
      rw [putN_out (by omega), putN_out (by omega), layF_in hj]
  · rcases snoc_get hk with ⟨_, hk'⟩ | ⟨e0, e⟩
    · rcases snoc_get hj with ⟨_, hj'⟩ | ⟨_, e⟩
      · exact h.sep k j f t1 f' t2 hkj hk' hj'
      · have := (h.ver k f t1 hk').1
        injection e with e
        injection e with e1 e2
        subst e1 e2
        omega
    · rcases snoc_get hj with ⟨_, hj'⟩ | ⟨e1, _⟩
      · have := (h.ver j f' t2 hj').1
        injection e with e
        injection e with e1 e2
        subst e1 e2
        omega
      · omega
  · have h4 := h3 M.length fr t (by simp)
    rw [out x (by omega) h4]
    exact h.zero x h1 h2 (fun k f t hk => h3 k f t (snoc_old hk))

theorem Mv.done {g g0 : Nat → Nat} {n at_ : Nat} {M : List Slot} (h : Mv g g0 n n M at_) : Pg (putN (putN g 0 2 n) 2 2 at_) M at_ := by
  have hl := h.len
  have hlo := h.lo
  have hhi := h.hi
  have out : ∀ x, 4 ≤ x → putN (putN g 0 2 n) 2 2 at_ x = g x := by
    intro x hx
    rw [putN_out (by omega), putN_out (by omega)]
  refine ⟨putN_lt (putN_lt h.lt _ _ _) _ _ _, ?_, leNum_putN (by omega), by omega, by omega, fun k s hk => ?_, fun k f t hk => ?_, h.sep, fun x h1 h2 h3 => ?_⟩
  · rw [leNum_putN_out (by omega), leNum_putN (by omega), hl]
  · have := h.ptr k s hk
    exact ⟨by rw [leNum_congr (g' := g) _ _ (fun x h1 h2 => out x (by omega))]; exact this.1, by rw [leNum_congr (g' := g) _ _ (fun x h1 h2 => out x (by omega))]; exact this.2⟩
  · obtain ⟨u1, u2, u3, u4⟩ := h.ver k f t hk
    refine ⟨u1, u2, u3, fun j hj => ?_⟩
    rw [out _ (by omega)]
    exact u4 j hj
  · rw [out x (by omega)]
    exact h.zero x (by omega) h2 h3

end Go.Lap
