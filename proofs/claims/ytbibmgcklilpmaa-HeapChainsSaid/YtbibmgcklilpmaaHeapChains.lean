/- HeapChains: versions one behind the other are gone through in that order, a circle once. For every input. -/
import Derived.Test.YtbibmgcklilpmaaHeapFree
import Derived.Test.YtbibmgcklilpmaaChain
import Derived.Test.YtbibmgcklilpmaaChainsPlain
namespace Go.Proofs.Ytbibmgcklilpmaa
open Go.RowKit Go.Lap

section
variable {w wr w' : World} {hb pb : Nat} {v : Value} {H : List (List (Option Tup))} {left : Nat} {l : List (Int × Int)}

theorem LawW.stamp {W : World} {K : Nat → Prop} (pg sl : Int) (x : Nat) (npg nsl : Int) (h : LawW w W K hb pb H left) (hl : (hStamp H pg sl x npg nsl).2.length = H.length) :
    Calls Try.prog 50 #[.pointer (some ⟨hb, 0, none⟩), .agg #[.int .i64 pg, .int .i64 sl], .int .u64 (x : Int), .agg #[.int .i64 npg, .int .i64 nsl]] W fun e w' => e = .returned (.int .i64 (hStamp H pg sl x npg nsl).1) ∧ Turn w W w' K ∧ LawW w w' K hb pb (hStamp H pg sl x npg nsl).2 left := by
  obtain ⟨F, hf, hF⟩ := h.ex
  refine (heap_stamp pg sl x npg nsl (hf.lim2 h.pool)).mono ?_
  rintro e w' ⟨rfl, ho, hh⟩
  exact ⟨rfl, h.turn hF (ho.mono (fun _ _ x => Or.inl x.1)) (h.pool.kept ho (fun x => x.2.2 rfl)) (hh.mono (fun _ x => Or.inl x.1)) (by rw [hl]; exact h.sum)⟩

theorem LawW.stamped {W : World} {K : Nat → Prop} {t : Tup} {p q : Int × Int} (h : LawW w W K hb pb H left) (hfit : ∀ T ∈ H, Fits T) (hg : hGet H p.1 p.2 = some t) (hq : farB q.1 q.2 = false) :
    Calls Try.prog 50 #[.pointer (some ⟨hb, 0, none⟩), .agg #[.int .i64 p.1, .int .i64 p.2], .int .u64 1, .agg #[.int .i64 q.1, .int .i64 q.2]] W fun e w' => ∃ H', e = .returned (.int .i64 0) ∧ Turn w W w' K ∧ LawW w w' K hb pb H' left ∧ StampAt H H' p.1 p.2 (t.stamp 1 q.1 q.2) := by
  obtain ⟨H', e, hs⟩ := stamp_goes (x := 1) hfit hg (by omega) hq
  have := h.stamp p.1 p.2 1 q.1 q.2 (by rw [e]; exact hs.len)
  rw [e] at this
  refine this.mono ?_
  rintro e w' ⟨rfl, ht, hl⟩
  exact ⟨H', rfl, ht, hl, hs⟩

theorem RowW.drew (h : RowW w wr hb pb v H left l) : RowW w wr.drew hb pb v H left l := h.quietly ((Only.refl _ _).drew)

theorem RowW.stamp {t : Tup} {p q : Int × Int} (h : RowW w wr hb pb v H left l) (hfit : ∀ T ∈ H, Fits T) (hg : hGet H p.1 p.2 = some t) (hq : farB q.1 q.2 = false) :
    Calls Try.prog 50 #[.pointer (some ⟨hb, 0, none⟩), .agg #[.int .i64 p.1, .int .i64 p.2], .int .u64 1, .agg #[.int .i64 q.1, .int .i64 q.2]] wr fun e w' => ∃ H', e = .returned (.int .i64 0) ∧ RowW w w' hb pb v H' left l ∧ StampAt H H' p.1 p.2 (t.stamp 1 q.1 q.2) := by
  refine (h.law.stamped hfit hg hq).mono ?_
  rintro e w' ⟨H', rfl, ht, hl, hs⟩
  exact ⟨H', rfl, h.turn ht hl, hs⟩

/-- The law's world: a heap, its row of places, the row that is wanted. -/
structure WantW (w wr : World) (hb pb : Nat) (v u : Value) (H : List (List (Option Tup))) (left : Nat) (l m : List (Int × Int)) : Prop where
  law : LawW w wr (fun j => v.ownBlock = some j ∨ u.ownBlock = some j) hb pb H left
  row : TidsAt wr v l
  want : TidsAt wr u m
  own : ∀ j, v.ownBlock = some j ∨ u.ownBlock = some j → w.heap.size ≤ j
  apart : ∀ j, v.ownBlock = some j → u.ownBlock ≠ some j

theorem RowW.want {u : Value} {m : List (Int × Int)} (h : RowW w wr hb pb v H left l) (hg : Grew (wr.alloc (.cells #[] 51)) w' 51 2 (.slice (some ⟨wr.heap.size, 0, none⟩) 0 0) u m.length (tidsV m)) : WantW w w' hb pb v u H left l m := by
  have h1 := h.quietly ((Only.refl (fun _ => False) wr).alloc (.cells #[] 51))
  have hqs := h.law.quiet.size
  have hq : Quiet wr w' := ((Only.refl _ _).alloc _).trans' hg.only (fun k hk e => by simp [Value.ownBlock] at e; omega)
  have hu : ∀ j, u.ownBlock = some j → wr.heap.size ≤ j := fun j e => by
    rcases hg.loc with x | x
    · rw [x] at e; simp [Value.ownBlock] at e; omega
    · rw [x] at e; injection e with e; simp at e; omega
  refine ⟨h.law.fresh hq (fun j e => ?_), owns_kept h.row hq (fun _ _ x => x), hg.own, fun j e => ?_, fun j e x => ?_⟩
  · rcases e with e | e
    · exact ⟨Or.inl e, by have := h.law.kl j e; have := hq.size; omega⟩
    · exact ⟨Or.inr (hu j e), (hg.own.lt j e).2⟩
  · rcases e with e | e
    · exact h.own j e
    · have := hu j e; omega
  · have := hu j x
    have := h.law.kl j e
    omega

variable {u : Value} {m : List (Int × Int)}

theorem WantW.quietly (h : WantW w wr hb pb v u H left l m) (hq : Quiet wr w') : WantW w w' hb pb v u H left l m :=
  ⟨h.law.quietly hq, owns_kept h.row hq (fun _ _ x => x), owns_kept h.want hq (fun _ _ x => x), h.own, h.apart⟩
theorem WantW.drew (h : WantW w wr hb pb v u H left l m) : WantW w wr.drew hb pb v u H left l m := h.quietly ((Only.refl _ _).drew)
theorem WantW.drewN (h : WantW w wr hb pb v u H left l m) (n : Nat) : WantW w (wr.drewN n) hb pb v u H left l m := h.quietly ((Only.refl _ _).drewN n)

theorem WantW.stamp {t : Tup} {p q : Int × Int} (h : WantW w wr hb pb v u H left l m) (hfit : ∀ T ∈ H, Fits T) (hg : hGet H p.1 p.2 = some t) (hq : farB q.1 q.2 = false) :
    Calls Try.prog 50 #[.pointer (some ⟨hb, 0, none⟩), .agg #[.int .i64 p.1, .int .i64 p.2], .int .u64 1, .agg #[.int .i64 q.1, .int .i64 q.2]] wr fun e w' => ∃ H', e = .returned (.int .i64 0) ∧ WantW w w' hb pb v u H' left l m ∧ StampAt H H' p.1 p.2 (t.stamp 1 q.1 q.2) := by
  refine (h.law.stamped hfit hg hq).mono ?_
  rintro e w' ⟨H', rfl, ht, hl, hs⟩
  exact ⟨H', rfl, ⟨hl, owns_kept h.row ht (fun j e x => x.1 (Or.inl e)), owns_kept h.want ht (fun j e x => x.1 (Or.inr e)), h.own, h.apart⟩, hs⟩

/-- More is wanted. -/
theorem WantW.more {u' : Value} {m' : List (Int × Int)} (h : WantW w wr hb pb v u H left l m) (hg : Grew wr w' 51 2 u u' (m.length + m'.length) (tidsV m ++ tidsV m')) : WantW w w' hb pb v u' H left l (m ++ m') := by
  have hu : ∀ j, u'.ownBlock = some j → u.ownBlock = some j ∨ wr.heap.size ≤ j := fun j e => by
    rcases hg.loc with x | x
    · rw [x] at e; exact Or.inl e
    · rw [x] at e; injection e with e; exact Or.inr (by omega)
  have hz := hg.only.size
  have hqs := h.law.quiet.size
  refine ⟨h.law.mine hg.only (fun j e => ⟨Or.inr e, h.own j (Or.inr e)⟩) (fun j e => ?_), owns_kept h.row hg.only (fun j e x => h.apart j e x), ?_, fun j e => ?_, fun j e x => ?_⟩
  · rcases e with e | e
    · exact ⟨Or.inl (Or.inl e), by have := h.law.kl j (Or.inl e); omega⟩
    · refine ⟨?_, (hg.own.lt j e).2⟩
      rcases hu j e with x | x
      · exact Or.inl (Or.inr x)
      · exact Or.inr x
  · unfold TidsAt
    rw [List.length_append, tidsV_append]
    exact hg.own
  · rcases e with e | e
    · exact h.own j (Or.inl e)
    · rcases hu j e with x | x
      · exact h.own j (Or.inr x)
      · omega
  · rcases hu j x with y | y
    · exact h.apart j e y
    · have := h.law.kl j (Or.inl e)
      omega

theorem WantW.chain (h : WantW w wr hb pb v u H left l m) (p : Int × Int) (hp : Wf p) (hfit : ∀ T ∈ H, Fits T) (hl : usedH H ≤ 1000000) :
    Calls Try.prog 52 #[.pointer (some ⟨hb, 0, none⟩), .agg #[.int .i64 p.1, .int .i64 p.2]] wr (ChainPost wr (chainH H p)) := by
  obtain ⟨F, hf, _⟩ := h.law.ex
  exact heap_chain p hp hf hfit hl

theorem wrapI {x : Int} (h : -9223372036854775808 ≤ x ∧ x < 9223372036854775808) : IntKind.i64.wrap x = x := by
  rw [IntKind.wrap_i64]
  omega

theorem tidsV_drop (l : List (Int × Int)) (f : Nat) : tidsV (l.drop f) = (tidsV l).drop (f * 2) := by
  induction l generalizing f with
  | nil => simp [tidsV]
  | cons p l ih =>
    rcases f with _ | f
    · rfl
    · rw [List.drop_succ_cons, ih, tidsV_cons, show (f + 1) * 2 = f * 2 + 1 + 1 by omega]; rfl

theorem tidsV_take (l : List (Int × Int)) (f : Nat) : tidsV (l.take f) = (tidsV l).take (f * 2) := by
  induction l generalizing f with
  | nil => simp [tidsV]
  | cons p l ih =>
    rcases f with _ | f
    · rfl
    · rw [List.take_succ_cons, tidsV_cons, ih, tidsV_cons, show (f + 1) * 2 = f * 2 + 1 + 1 by omega]; rfl

theorem tids_drop {g c n : Nat} (h : TidsAt wr (.slice (some ⟨g, 0, none⟩) n c) l) (hn : l.length = n) (f : Nat) (hf : f ≤ n) : Rd wr (· = g) 2 (some ⟨g, f * 2, none⟩) (n - f) (tidsV (l.drop f)) := by
  refine ⟨by rw [tidsV_length, List.length_drop, hn], fun _ => ⟨g, f * 2, rfl, rfl, fun j u hu => ?_⟩⟩
  rw [tidsV_drop, List.getElem?_drop] at hu
  have := h.cells rfl _ _ hu
  rw [add_none, Nat.zero_add] at this
  exact this

theorem tids_take {g c n : Nat} (h : TidsAt wr (.slice (some ⟨g, 0, none⟩) n c) l) (hn : l.length = n) (f : Nat) (hf : f ≤ n) : Rd wr (· = g) 2 (some ⟨g, 0, none⟩) f (tidsV (l.take f)) := by
  refine ⟨by rw [tidsV_length, List.length_take, hn]; congr 1; omega, fun _ => ⟨g, 0, rfl, rfl, fun j u hu => ?_⟩⟩
  rw [tidsV_take, List.getElem?_take] at hu
  split at hu
  · have := h.cells rfl _ _ hu
    rw [add_none] at this
    exact this
  · cases hu

theorem Linked.ring {ts : List Pl} {k : Nat} {x : Pl} (h : Linked ts k) (hx : ts[k]? = some x) (u : Tup) : ∀ (j : Nat) (a b : Pl), j < k → (ts.set k (x.1, u))[j]? = some a → (ts.set k (x.1, u))[j + 1]? = some b → (a.2.pg, a.2.sl) = b.1 := by
  have hkl : k < ts.length := (List.getElem?_eq_some_iff.1 hx).1
  intro j a b hj ha hb
  rw [List.getElem?_set, if_neg (by omega)] at ha
  rw [List.getElem?_set] at hb
  by_cases e : k = j + 1
  · rw [if_pos e, if_pos hkl] at hb
    injection hb with hb
    subst hb
    exact h.next j a x hj ha (by rw [← e]; exact hx)
  · rw [if_neg e] at hb
    exact h.next j a b hj ha hb

theorem first_kept {ts : List Pl} {k : Nat} {x y : Pl} (hx : ts[k]? = some x) (hy : ts[0]? = some y) (u : Tup) : ∃ z, (ts.set k (x.1, u))[0]? = some z ∧ z.1 = y.1 := by
  have hkl : k < ts.length := (List.getElem?_eq_some_iff.1 hx).1
  rw [List.getElem?_set]
  by_cases e : k = 0
  · subst e
    rw [hy] at hx
    injection hx with hx
    exact ⟨_, by rw [if_pos rfl, if_pos hkl], by rw [hx]⟩
  · exact ⟨y, by rw [if_neg e]; exact hy, rfl⟩

/-- Four cells of a row of places. -/
theorem row4 {g c n i j : Nat} {x y : Int × Int} (h : TidsAt wr (.slice (some ⟨g, 0, none⟩) n c) l) (hx : l[i]? = some x) (hy : l[j]? = some y) :
    wr.cell? ⟨g, i * 2, none⟩ = some (.int .i64 x.1) ∧ wr.cell? ⟨g, i * 2 + 1, none⟩ = some (.int .i64 x.2) ∧ wr.cell? ⟨g, j * 2, none⟩ = some (.int .i64 y.1) ∧ wr.cell? ⟨g, j * 2 + 1, none⟩ = some (.int .i64 y.2) := by
  obtain ⟨a, b, _⟩ := tids_at h hx
  obtain ⟨c, d, _⟩ := tids_at h hy
  exact ⟨a, b, c, d⟩

end

set_option maxHeartbeats 2000000 in
set_option maxRecDepth 100000 in
theorem heapChains_any (z s : Int) (circle : Bool) (w : World) (hz : 0 ≤ z ∧ z ≤ 255) (hs : 0 ≤ s ∧ s ≤ 255) :
    Calls Try.prog 12 #[.int .u8 z, .int .u8 s, .bool circle] w fun e w' => e = .returned (.bool true) ∧ Below w.heap.size w w' := by
  obtain ⟨k, hk, hk2⟩ : ∃ k : Nat, z % 20 = k ∧ k ≤ 19 := ⟨(z % 20).toNat, by omega, by omega⟩
  have hmk : ∀ W : World, (Instr.makeSlice 48 (.int .i64 50) (.int .i64 50)).run Try.prog W = .ok (.slice (some ⟨W.heap.size, 0, none⟩) 50 50) (W.alloc (.cells (tab 50 (byteF (fun _ => 0))) 5)) := fun W => make_u8 50 (by omega) W
  go_enter Try.func12, Try.ntmps12
  go_wp2_with fail
  refine (awake7 _).mono ?_
  rintro e w1 ⟨rfl, hq1⟩
  have HQ1 := Lib.hid hq1
  clear hq1
  go_wp2_with fail
  refine (pool_new 20 (by omega) _).mono ?_
  rintro e w2 ⟨rfl, hq2', hp2⟩
  have HQ2 := Lib.hid (HQ1.out.trans hq2')
  have HP2 := Lib.hid hp2
  have hpb : w.heap.size ≤ w1.heap.size := HQ1.out.size
  clear hq2' hp2 HQ1
  generalize w1.heap.size = pb at HP2 hpb ⊢
  go_wp2_with fail
  refine (heap_new _ _).mono ?_
  rintro e w3 ⟨hb, rfl, hq3, hh3⟩
  have HS4 : Hid (RowW w w3 hb pb (.slice none 0 0) [] 20 []) := ⟨LawW.start HQ2.out HP2.out hpb (by omega) hq3 hh3 (fun _ x => by cases x), World.ownsRow_nil _ _ _ _, fun _ x => by cases x⟩
  clear hq3 hh3 HQ2 HP2
  go_wp2_with fail
  clear hk hz
  go_loopw [30, 11, 12, 13] (fun c v _ _ wr => ∃ (i : Nat) (H : List (List (Option Tup))) (left : Nat) (ts : List Pl), i ≤ k + 1 ∧ c = .int .i64 (i : Int) ∧ ts.length = i ∧ RowW w wr hb pb v H left (ts.map (·.1)) ∧ Inv H ts ∧ Linked ts 0 ∧ H.length ≤ i ∧ H.length + left = 20) (fun c _ _ _ _ => k + 1 - (intOf c).toNat)
  case atStart => exact ⟨0, [], 20, [], Nat.zero_le _, rfl, rfl, HS4.out, Inv.start, ⟨fun j x y hj => by omega, fun j x _ hx => by simp at hx⟩, Nat.le_refl _, rfl⟩
  case round =>
    obtain ⟨i, H, left, ts, hi, rfl, hll, hS, hV, hK, hHl, hsum⟩ := hrel
    clear HS4
    have HS := Lib.hid hS
    have HV := Lib.hid hV
    have HK := Lib.hid hK
    clear hK hS hV
    by_cases hlt : i < k + 1
    · have HPUT := Lib.hid (HS.out.put (tupI 1 50) (A := some ⟨wr.heap.size, 0, none⟩) (cap := 50) (w' := wr.alloc (.cells (tab 50 (byteF (fun _ => 0))) 5)) ((Only.refl _ _).alloc _) (zero_rd wr 1 50) (fun j e => by rw [e]; simp) (tupI_bytes 1 50) (tupI_right (by omega) (by omega)) HV.out.fit (Or.inl (by omega)))
      rw [tupI_v] at HPUT
      go_wp2_with fail
      refine HPUT.out.mono ?_
      rintro e w5 ⟨pg, sl, H', left', rfl, hs5, hi5, hsum5⟩
      have HS5 := Lib.hid hs5
      have HI5 := Lib.hid hi5
      have hl5 := hi5.len
      clear hs5 hi5 HS HPUT hmk
      have hlm : (ts.map (·.1)).length = i := by simpa using hll
      have hrow5 := HS5.out.row
      rw [TidsAt, hlm] at hrow5
      have HROW := Lib.hid hrow5
      clear hrow5
      go_wp2_with (at_builtin; refine app elem_tid rfl (.tmp 42) (.tmp 44) rfl rfl (owns_kept (owns_kept HROW.out ((Only.refl (fun _ => False) w5).alloc _) (fun _ _ x => x)) ((Only.refl (fun _ => False) (w5.alloc _)).alloc _) (fun _ _ x => x)) rfl (tids_new1 _ _ pg sl) (one_tids [(pg, sl)]) (by unfold maxLen; omega) (by omega) ?_)
      intro v' w6 hg
      have HS6 := Lib.hid (HS5.out.push (p := (pg, sl)) (by rw [hlm]; exact hg))
      clear hg HS5 HROW
      go_wp2
      go_roundw
      case rel => exact ⟨i + 1, H', left', ts ++ [((pg, sl), tupI 1 50)], by omega, by go_num, by simp [hll], by rw [List.map_append]; exact HS6.out, HV.out.ins HI5.out, ⟨fun j x y hj => by omega, fun j x _ hx => by
        rcases snoc_get hx with ⟨_, h1⟩ | ⟨_, h2⟩
        · exact HK.out.none_ j x (Nat.zero_le _) h1
        · rw [h2]; exact ⟨rfl, rfl⟩⟩, by omega, by omega⟩
      case measure => simp [intOf]; omega
    · obtain ⟨B, c, hv, hc, hcm, hform⟩ := tids_form HS.out.row
      have hlm : (ts.map (·.1)).length = k + 1 := by simp; omega
      rw [hlm] at hv hc
      subst hv
      unfold maxLen at hcm
      obtain ⟨x0, hx0⟩ : ∃ x0, ts[0]? = some x0 := ⟨_, List.getElem?_eq_getElem (by omega)⟩
      obtain ⟨g, rfl, _⟩ := hform 0 x0.1 (by rw [List.getElem?_map, hx0]; rfl)
      have hll' : ts.length = k + 1 := by omega
      obtain ⟨L, hL⟩ : ∃ L, ts.map (·.1) = L := ⟨_, rfl⟩
      have hHl20 : H.length ≤ 20 := by omega
      rw [hL] at hlm hform HS
      clear hform hHl hx0 hmk
      go_wp2_with fail
      clear hlt hi hll
      go_loopw [49, 14] (fun c' _ wr => ∃ (j : Nat) (H : List (List (Option Tup))) (ts : List Pl), j ≤ k ∧ c' = .int .i64 (j : Int) ∧ ts.length = k + 1 ∧ ts.map (·.1) = L ∧ RowW w wr hb pb (.slice (some ⟨g, 0, none⟩) (k + 1) c) H left L ∧ Inv H ts ∧ Linked ts j ∧ H.length ≤ 20) (fun c' _ _ => k - (intOf c').toNat)
      case atStart => exact ⟨0, H, ts, Nat.zero_le _, rfl, hll', hL, HS.out, HV.out, HK.out, hHl20⟩
      case round =>
        clear HS HV HK hL hll' hHl20 hsum
        clear ts H
        obtain ⟨j, H, ts, hj, rfl, hll, hL, hS, hV, hK, hH20⟩ := hrel
        have HS := Lib.hid hS
        have HV := Lib.hid hV
        have HK := Lib.hid hK
        clear hK hS hV
        by_cases hlt : j < k
        · obtain ⟨x, hx⟩ : ∃ x, ts[j]? = some x := ⟨_, List.getElem?_eq_getElem (by omega)⟩
          obtain ⟨y, hy⟩ : ∃ y, ts[j + 1]? = some y := ⟨_, List.getElem?_eq_getElem (by omega)⟩
          have hxl : L[j]? = some x.1 := by rw [← hL, List.getElem?_map, hx]; rfl
          have hyl : L[j + 1]? = some y.1 := by rw [← hL, List.getElem?_map, hy]; rfl
          have HX := Lib.hid hx
          have HY := Lib.hid hy
          have HXL := Lib.hid hxl
          have HYL := Lib.hid hyl
          have HST := Lib.hid (HS.out.drew.stamp (q := y.1) HV.out.fit (HV.out.got x (List.mem_of_getElem? hx)) (near_of HV.out.fit (by omega) (HV.out.got y (List.mem_of_getElem? hy))).2.2.2.2)
          obtain ⟨r0, r1, r2, r3⟩ := row4 HS.out.row hxl hyl
          have dj0 : (0 : Int) ≤ (j : Int) := by omega
          have dj1 : (j : Int) < (k : Int) + 1 := by omega
          have dj2 : (0 : Int) ≤ (j : Int) + 1 := by omega
          have dj3 : (j : Int) + 1 < (k : Int) + 1 := by omega
          have dw : IntKind.i64.wrap ((j : Int) + 1) = (j : Int) + 1 := wrapI (by omega)
          have dt : ((j : Int) + 1).toNat = j + 1 := by omega
          clear hx hy hxl hyl
          go_wp2_with fail
          go_region_held3 (fun w' => w'.cell? ⟨g, j * 2, none⟩ = some (.int .i64 x.1.1) ∧ w'.cell? ⟨g, j * 2 + 1, none⟩ = some (.int .i64 x.1.2) ∧ w'.cell? ⟨g, (j + 1) * 2, none⟩ = some (.int .i64 y.1.1) ∧ w'.cell? ⟨g, (j + 1) * 2 + 1, none⟩ = some (.int .i64 y.1.2))
            (first | go_keep | exact row4 hs5.row HXL.out HYL.out | fail)
            (first
              | (go_at_call 50; go_must (refine HST.out.mono ?_; rintro e w5 ⟨H5, rfl, hs5, hst5⟩))
              | fail)
          have HS5 := Lib.hid hs5
          have HV5 := Lib.hid (HV.out.stamp HX.out hst5)
          have HK5 := Lib.hid (HK.out.step (u := x.2.stamp 1 y.1.1 y.1.2) HX.out HY.out rfl)
          have hl5 := hst5.len
          have hL5 : (ts.set j (x.1, x.2.stamp 1 y.1.1 y.1.2)).map (·.1) = L := by rw [set_fst HX.out]; exact hL
          clear hs5 hst5 HST r0 r1 r2 r3 HS dj0 dj1 dj2 dj3 dw dt
          go_wp2
          go_roundw
          case rel => exact ⟨j + 1, H5, _, by omega, by go_num, by rw [List.length_set]; exact hll, hL5, HS5.out, HV5.out, HK5.out, by omega⟩
          case measure => simp [intOf]; omega
        · obtain rfl : j = k := by omega
          obtain ⟨f, hf, hfk⟩ : ∃ f : Nat, s % (1 + (j : Int)) = f ∧ f < j + 1 := ⟨(s % (1 + (j : Int))).toNat, by have := Int.emod_nonneg s (show 1 + (j : Int) ≠ 0 by omega); omega, by have := Int.emod_nonneg s (show 1 + (j : Int) ≠ 0 by omega); have := Int.emod_lt_of_pos s (show (0 : Int) < 1 + (j : Int) by omega); omega⟩
          have dq : ¬ (1 + (j : Int) = 0) := by omega
          have df0 : (0 : Int) ≤ (f : Int) := by omega
          have df1 : (f : Int) ≤ (j : Int) + 1 := by omega
          have df2 : (f : Int) < (j : Int) + 1 := by omega
          have dfc : ¬ c = f := by omega
          have dj1 : ¬ (j + 1 = f) := by omega
          obtain ⟨p, hp⟩ : ∃ p, L[f]? = some p := ⟨_, List.getElem?_eq_getElem (by omega)⟩
          have hrd := tids_drop HS.out.row hlm f (by omega)
          have HRD := Lib.hid (Rd.kept hrd ((Only.refl (fun _ => False) wr).alloc (.cells #[] 51)) (fun _ _ x => x))
          have HFL := Lib.hid hp
          have HWFP : Hid (Wf p) := by
            obtain ⟨y, hy, hyp⟩ : ∃ y : Pl, ts[f]? = some y ∧ y.1 = p := by
              rw [← hL, List.getElem?_map] at hp
              rcases hz : ts[f]? with _ | z
              · rw [hz] at hp; cases hp
              · rw [hz] at hp; simp at hp; exact ⟨z, rfl, hp⟩
            have := near_of HV.out.fit (by omega) (HV.out.got y (List.mem_of_getElem? hy))
            rw [hyp] at this
            exact ⟨wf_i64' (by omega), wf_i64' (by omega)⟩
          clear hrd hp
          go_wp2_with (at_builtin; refine app elem_tid rfl (.tmp 68) (.tmp 71) rfl rfl (owns_empty wr _ _) rfl HRD.out (one_tids _) (by unfold maxLen; omega) (by omega) ?_)
          intro u w5 hg
          have hml : (L.drop f).length = j + 1 - f := by rw [List.length_drop, hlm]
          have HW5 : Hid (WantW w w5 hb pb (.slice (some ⟨g, 0, none⟩) (j + 1) c) u H left L (L.drop f)) := HS.out.want (by rw [hml]; exact hg)
          clear hg HRD HS
          rcases circle with _ | _
          · have HCE : Hid (chainH H p = L.drop f) := by
              have := chain_line (f := f) (p := p) HV.out hll HK.out (by rw [hL]; exact HFL.out)
              rw [hL] at this
              exact this
            have HWF := HW5
            have HVF := HV
            clear HW5 HV HK
            obtain ⟨r0, r1, _⟩ := tids_at HWF.out.row HFL.out
            have HCH := Lib.hid (HWF.out.chain p HWFP.out HVF.out.fit (by rw [HVF.out.used]; omega))
            rw [HCE.out] at HCH
            go_wp2_with fail
            refine HCH.out.mono ?_
            rintro e w7 ⟨v7, rfl, hq7, hn7, ht7⟩
            have HW7 := Lib.hid (HWF.out.quietly hq7)
            have HSP := Lib.hid (same_places v7 u _ _ w7 ht7 HW7.out.want)
            rw [decide_eq_true rfl] at HSP
            clear hq7 hn7 ht7 HCH HWF r0 r1
            go_wp2_with fail
            refine HSP.out.mono ?_
            rintro e w8 ⟨rfl, n8, rfl⟩
            have HCH2 := Lib.hid ((HW7.out.drewN n8).chain (99, 0) ⟨wf_i64' (by decide), wf_i64' (by decide)⟩ HVF.out.fit (by rw [HVF.out.used]; omega))
            rw [chain_off (hGet_out (Or.inr (by show _ ≤ (99 : Int); omega)))] at HCH2
            go_wp2_with fail
            refine HCH2.out.mono ?_
            rintro e w9 ⟨v9, rfl, hq9, hn9, ht9⟩
            obtain ⟨A9, c9, rfl, _, _, _⟩ := tids_form ht9
            have HW9 := Lib.hid ((HW7.out.drewN n8).quietly hq9)
            clear hq9 hn9 ht9 HCH2 HSP HW7
            go_wp2
            go_ret
            exact ⟨by simp, onward (Below.refl _ _) (Nat.le_refl _) HW9.out.law.quiet (fun _ x => x.elim)⟩
          · obtain ⟨x, hx⟩ : ∃ x, ts[j]? = some x := ⟨_, List.getElem?_eq_getElem (by omega)⟩
            obtain ⟨y, hy⟩ : ∃ y, ts[0]? = some y := ⟨_, List.getElem?_eq_getElem (by omega)⟩
            have hxl : L[j]? = some x.1 := by rw [← hL, List.getElem?_map, hx]; rfl
            have hyl : L[0]? = some y.1 := by rw [← hL, List.getElem?_map, hy]; rfl
            have HX := Lib.hid hx
            have HY := Lib.hid hy
            have HXL := Lib.hid hxl
            have HYL := Lib.hid hyl
            have HST := Lib.hid (HW5.out.drew.stamp (q := y.1) HV.out.fit (HV.out.got x (List.mem_of_getElem? hx)) (near_of HV.out.fit (by omega) (HV.out.got y (List.mem_of_getElem? hy))).2.2.2.2)
            obtain ⟨r0, r1, r2, r3⟩ := row4 HW5.out.row hxl hyl
            have dj0 : (0 : Int) ≤ 1 + (j : Int) - 1 := by omega
            have dj1 : 1 + (j : Int) - 1 < (j : Int) + 1 := by omega
            have dw : IntKind.i64.wrap (1 + (j : Int) - 1) = (j : Int) := by rw [wrapI (by omega)]; omega
            have dz : (0 : Int) < (j : Int) + 1 := by omega
            have dy : (j : Int) < (j : Int) + 1 := by omega
            clear hx hy hxl hyl
            go_wp2_with fail
            go_region_held3 (fun w' => w'.cell? ⟨g, j * 2, none⟩ = some (.int .i64 x.1.1) ∧ w'.cell? ⟨g, j * 2 + 1, none⟩ = some (.int .i64 x.1.2) ∧ w'.cell? ⟨g, 0 * 2, none⟩ = some (.int .i64 y.1.1) ∧ w'.cell? ⟨g, 0 * 2 + 1, none⟩ = some (.int .i64 y.1.2))
              (first | go_keep | exact hh5 | fail)
              (first
                | (go_at_call 50; go_must (refine HST.out.mono ?_; rintro e w6 ⟨H5, rfl, hs5, hst5⟩; have hh5 := row4 hs5.row HXL.out HYL.out))
                | fail)
            have HCE : Hid (chainH H5 p = L.drop f ++ L.take f) := by
              obtain ⟨y', hy1, hy2⟩ := first_kept HX.out HY.out (x.2.stamp 1 y.1.1 y.1.2)
              have := chain_ring (f := f) (p := p) (HV.out.stamp HX.out hst5) (by rw [List.length_set]; exact hll) (HK.out.ring HX.out _) (x := (x.1, x.2.stamp 1 y.1.1 y.1.2)) (by rw [List.getElem?_set, if_pos rfl, if_pos (by omega)]) hy1 (by rw [hy2]; rfl) (by rw [set_fst HX.out, hL]; exact HFL.out)
              rw [set_fst HX.out, hL] at this
              exact this
            have HVF := Lib.hid (HV.out.stamp HX.out hst5)
            have hl5 := hst5.len
            have hll5 : (ts.set j (x.1, x.2.stamp 1 y.1.1 y.1.2)).length = j + 1 := by rw [List.length_set]; exact hll
            have HS6 := Lib.hid hs5
            have HRT := Lib.hid (tids_take hs5.row hlm f (by omega))
            have hrow6 := hs5.want
            rw [TidsAt, hml] at hrow6
            have HROW := Lib.hid hrow6
            clear hs5 hst5 hh5 hrow6 HST r0 r1 r2 r3 HW5 dj0 dj1 dw dz dy
            go_wp2_with (at_builtin; refine app elem_tid rfl (.tmp 84) (.tmp 87) rfl rfl HROW.out rfl HRT.out (one_tids _) (by unfold maxLen; omega) (by omega) ?_)
            intro u' w8 hg
            have hmt : (L.take f).length = f := by rw [List.length_take, hlm]; omega
            have HWF := Lib.hid (HS6.out.more (m' := L.take f) (by rw [hml, hmt]; exact hg))
            clear hg HS6 HRT HROW HV HK
            obtain ⟨r0, r1, _⟩ := tids_at HWF.out.row HFL.out
            have HCH := Lib.hid (HWF.out.chain p HWFP.out HVF.out.fit (by rw [HVF.out.used]; omega))
            rw [HCE.out] at HCH
            go_wp2_with fail
            refine HCH.out.mono ?_
            rintro e w7 ⟨v7, rfl, hq7, hn7, ht7⟩
            have HW7 := Lib.hid (HWF.out.quietly hq7)
            have HSP := Lib.hid (same_places v7 u' _ _ w7 ht7 HW7.out.want)
            rw [decide_eq_true rfl] at HSP
            clear hq7 hn7 ht7 HCH HWF r0 r1
            go_wp2_with fail
            refine HSP.out.mono ?_
            rintro e w8 ⟨rfl, n8, rfl⟩
            have HCH2 := Lib.hid ((HW7.out.drewN n8).chain (99, 0) ⟨wf_i64' (by decide), wf_i64' (by decide)⟩ HVF.out.fit (by rw [HVF.out.used]; omega))
            rw [chain_off (hGet_out (Or.inr (by show _ ≤ (99 : Int); omega)))] at HCH2
            go_wp2_with fail
            refine HCH2.out.mono ?_
            rintro e w9 ⟨v9, rfl, hq9, hn9, ht9⟩
            obtain ⟨A9, c9, rfl, _, _, _⟩ := tids_form ht9
            have HW9 := Lib.hid ((HW7.out.drewN n8).quietly hq9)
            clear hq9 hn9 ht9 HCH2 HSP HW7
            go_wp2
            go_ret
            exact ⟨by simp, onward (Below.refl _ _) (Nat.le_refl _) HW9.out.law.quiet (fun _ x => x.elim)⟩

open Go.ChangeShapes Go.WideShapes in
set_option maxRecDepth 100000 in
theorem heapChains_walk {H : Type} {enc : TypeId × Value → H} {r : Reach} {base : Nat} {d0 d1 d2 : DataW H} {p0 p1 p2 : List MemPlace} (v0 v1 v2 : Value) (W : World)
    (o0 : Value.okWide Try.prog W r base 5 v0) (h0 : DataW.Trod enc Try.prog W 0 (fun _ => true) true 5 v0 d0 p0) (o1 : Value.okWide Try.prog W r base 5 v1) (h1 : DataW.Trod enc Try.prog W 0 (fun _ => true) true 5 v1 d1 p1)
    (o2 : Value.okWide Try.prog W r base 4 v2) (h2 : DataW.Trod enc Try.prog W 0 (fun _ => true) true 4 v2 d2 p2) :
    Calls Try.prog 12 #[v0, v1, v2] W fun e w' => e = .returned (.bool true) ∧ Below W.heap.size W w' := by
  obtain ⟨x, rfl, _, _, wx⟩ := open_int Try.underlying5 o0 h0
  obtain ⟨y, rfl, _, _, wy⟩ := open_int Try.underlying5 o1 h1
  obtain ⟨b, rfl, _⟩ := open_bool Try.underlying4 o2 h2
  exact heapChains_any x y b W (bounds_u8 wx) (bounds_u8 wy)

end Go.Proofs.Ytbibmgcklilpmaa
