/- What the laws on heaps share: wide, awake; a heap in a law's world. No condition. -/
import Derived.Test.YtbibmgcklilpmaaHeapWalk3
import Derived.Test.YtbibmgcklilpmaaBoxed
import Derived.Test.YtbibmgcklilpmaaFillsPlain
namespace Go.Lap
theorem hIns_sum (H : List (List (Option Tup))) (left : Nat) (t : Tup) : (hIns H left t).2.1.length + (hIns H left t).2.2 = H.length + left := by
  unfold hIns
  split
  · rfl
  · split
    · simp
    · split
      · rfl
      · simp; omega

theorem hFree_length (H : List (List (Option Tup))) (pg sl : Int) : (hFree H pg sl).2.length = H.length := by
  unfold hFree
  split
  · rfl
  · simp
end Go.Lap
namespace Go.Proofs.Ytbibmgcklilpmaa
open Go.RowKit Go.Lap

theorem tup0_vH (k : Nat) (A : Option Addr) (cap : Nat) : tupV (tup0 k) A cap = .agg #[.int .u64 1, .int .u64 1, .int .u64 0, .int .i64 (-1), .int .i64 (-1), .slice A k cap] := by
  unfold tupV
  rw [show (tup0 k).data.length = k by simp [tup0]]
  rfl

theorem tup0_rdH {w : World} {db k : Nat} (h : Bk w db k 5 (fun _ => 0)) : Rd w (· = db) 1 (some ⟨db, 0, none⟩) (tup0 k).data.length (bytesV (tup0 k).data) := by
  refine ⟨by simp [bytesV], fun _ => ⟨db, 0, rfl, rfl, fun j u hu => ?_⟩⟩
  unfold bytesV tup0 at hu
  rw [List.getElem?_map, List.getElem?_replicate] at hu
  split at hu
  · rename_i hj
    rw [Nat.zero_add, h.cell hj]
    exact hu
  · cases hu

/-- What wide tells. -/
def WidePost (w : World) (e : Ending) (w' : World) : Prop :=
  ∃ db, e = .returned (.agg #[.int .u64 1, .int .u64 1, .int .u64 0, .int .i64 (-1), .int .i64 (-1), .slice (some ⟨db, 0, none⟩) 200 200]) ∧ Quiet w w' ∧ Bk w' db 200 5 (fun _ => 0) ∧ w.heap.size ≤ db

set_option maxHeartbeats 400000 in
set_option maxRecDepth 100000 in
theorem wide_any (w : World) : Calls Try.prog 46 #[] w (WidePost w) := by
  have hmk : ∀ W : World, (Instr.makeSlice 48 (.int .i64 200) (.int .i64 200)).run Try.prog W = .ok (.slice (some ⟨W.heap.size, 0, none⟩) 200 200) (W.alloc (.cells (tab 200 (byteF (fun _ => 0))) 5)) := fun W => make_u8 200 (by omega) W
  go_enter Try.func46, Try.ntmps46
  go_wp2_with fail
  exact bodyPost_ret (v := .agg #[.int .u64 1, .int .u64 1, .int .u64 0, .int .i64 (-1), .int .i64 (-1), .slice (some ⟨w.heap.size + 1, 0, none⟩) 200 200]) (by simp [results, Try.results46, go_sem]) rfl
    ⟨_, rfl, ((Only.refl _ _).alloc _).alloc _, two_new _ _ _, by omega⟩

/-- A heap of one pool in a law's world; the blocks of K are the law's own. -/
structure LawW (w W : World) (K : Nat → Prop) (hb pb : Nat) (H : List (List (Option Tup))) (left : Nat) : Prop where
  quiet : Quiet w W
  ex : ∃ F, HeapIs W hb pb F H ∧ (∀ k, F k → w.heap.size ≤ k ∧ k < W.heap.size ∧ ¬ K k)
  pool : PoolAt W pb left
  pbn : w.heap.size ≤ pb ∧ ¬ K pb
  sum : H.length + left ≤ 256
  kl : ∀ k, K k → k < W.heap.size

section
variable {w W W' : World} {K K' : Nat → Prop} {hb pb : Nat} {H : List (List (Option Tup))} {left : Nat}

theorem LawW.fresh (h : LawW w W K hb pb H left) (hq : Quiet W W') (hk : ∀ k, K' k → (K k ∨ W.heap.size ≤ k) ∧ k < W'.heap.size) : LawW w W' K' hb pb H left := by
  obtain ⟨F, hf, hF⟩ := h.ex
  have hs := hq.size
  have hp := h.pool.lt
  refine ⟨h.quiet.trans hq, ⟨F, hf.kept hq (fun _ _ x => x), fun k x => ?_⟩, h.pool.kept hq (fun x => x), ⟨h.pbn.1, fun x => ?_⟩, h.sum, fun k x => (hk k x).2⟩
  · obtain ⟨a, b, c⟩ := hF k x
    refine ⟨a, by omega, fun y => ?_⟩
    rcases (hk k y).1 with z | z
    · exact c z
    · omega
  · rcases (hk _ x).1 with z | z
    · exact h.pbn.2 z
    · omega

theorem LawW.quietly (h : LawW w W K hb pb H left) (hq : Quiet W W') : LawW w W' K hb pb H left := h.fresh hq (fun k x => ⟨Or.inl x, by have := h.kl k x; have := hq.size; omega⟩)
theorem LawW.drew (h : LawW w W K hb pb H left) : LawW w W.drew K hb pb H left := h.quietly ((Only.refl _ _).drew)
theorem LawW.drewN (h : LawW w W K hb pb H left) (n : Nat) : LawW w (W.drewN n) K hb pb H left := h.quietly ((Only.refl _ _).drewN n)

theorem LawW.start (h : Quiet w W) (hp : PoolAt W pb left) (hpb : w.heap.size ≤ pb) (hl : left ≤ 256) (hq : Quiet W W') (hh : HeapIs W' hb pb (fun k => W.heap.size ≤ k) []) (hK : ∀ k, K k → k < W.heap.size ∧ k ≠ pb) : LawW w W' K hb pb [] left := by
  have hs := h.size
  have hs' := hq.size
  exact ⟨h.trans hq, ⟨_, hh.lim, fun k x => ⟨by omega, x.2, fun y => by have := hK k y; omega⟩⟩, hp.kept hq (fun x => x), ⟨hpb, fun y => (hK _ y).2 rfl⟩, by simpa using hl, fun k x => by have := hK k x; omega⟩

/-- How a law's world turns: of what was there the blocks of K, and all that is elder than the law, are as they were. -/
abbrev Turn (w W W' : World) (K : Nat → Prop) : Prop := Only (fun k => ¬ K k ∧ w.heap.size ≤ k) W W'

theorem LawW.turn {F : Nat → Prop} {H' : List (List (Option Tup))} {left' : Nat} (h : LawW w W K hb pb H left) (hF : ∀ k, F k → w.heap.size ≤ k ∧ k < W.heap.size ∧ ¬ K k)
    (ho : Only (fun k => F k ∨ k = pb) W W') (hp : PoolAt W' pb left') (hh : HeapIs W' hb pb (fun k => F k ∨ W.heap.size ≤ k) H') (hs : H'.length + left' ≤ 256) : Turn w W W' K ∧ LawW w W' K hb pb H' left' := by
  have hz := ho.size
  have hqs := h.quiet.size
  refine ⟨ho.mono (fun k _ x => ?_), h.quiet.trans' ho (fun k hk x => ?_), ⟨_, hh.lim, fun k x => ?_⟩, hp, h.pbn, hs, fun k x => by have := h.kl k x; omega⟩
  · rcases x with x | x
    · exact ⟨(hF k x).2.2, (hF k x).1⟩
    · subst x; exact ⟨h.pbn.2, h.pbn.1⟩
  · rcases x with x | x
    · have := hF k x; omega
    · have := h.pbn.1; omega
  · obtain ⟨x, y⟩ := x
    rcases x with x | x
    · exact ⟨(hF k x).1, y, (hF k x).2.2⟩
    · exact ⟨by omega, y, fun z => by have := h.kl k z; omega⟩

theorem LawW.insert (t : Tup) (A : Option Addr) (cap : Nat) (S : Nat → Prop) (h : LawW w W K hb pb H left) (hby : ∀ x ∈ t.data, x < 256) (hd : Rd W S 1 A t.data.length (bytesV t.data)) (hS : ∀ k, S k → K k) :
    Calls Try.prog 43 #[.pointer (some ⟨hb, 0, none⟩), tupV t A cap] W fun e w' => e = .returned (.tuple #[.agg #[.int .i64 (hIns H left t).1.1, .int .i64 (hIns H left t).1.2.1], .int .i64 (hIns H left t).1.2.2]) ∧ Turn w W w' K ∧ LawW w w' K hb pb (hIns H left t).2.1 (hIns H left t).2.2 := by
  obtain ⟨F, hf, hF⟩ := h.ex
  refine (heap_insert left t A cap S hf h.pool h.sum hby hd (fun k hk => ⟨fun x => (hF k x).2.2 (hS k hk), fun e => h.pbn.2 (by rw [← e]; exact hS k hk)⟩)).mono ?_
  rintro e w' ⟨rfl, ho, hp, hh⟩
  exact ⟨rfl, h.turn hF ho hp hh (by have := hIns_sum H left t; have := h.sum; omega)⟩

theorem LawW.free (pg sl : Int) (h : LawW w W K hb pb H left) :
    Calls Try.prog 47 #[.pointer (some ⟨hb, 0, none⟩), .agg #[.int .i64 pg, .int .i64 sl]] W fun e w' => e = .returned (.int .i64 (hFree H pg sl).1) ∧ Turn w W w' K ∧ LawW w w' K hb pb (hFree H pg sl).2 left := by
  obtain ⟨F, hf, hF⟩ := h.ex
  refine (heap_free pg sl (hf.lim2 h.pool)).mono ?_
  rintro e w' ⟨rfl, ho, hh⟩
  exact ⟨rfl, h.turn hF (ho.mono (fun _ _ x => Or.inl x.1)) (h.pool.kept ho (fun x => x.2.2 rfl)) (hh.mono (fun _ x => Or.inl x.1)) (by rw [hFree_length]; exact h.sum)⟩

theorem LawW.drop (h : LawW w W K hb pb H left) :
    Calls Try.prog 42 #[.pointer (some ⟨hb, 0, none⟩)] W fun e w' => e = .returned (.int .i64 (H.length : Int)) ∧ Turn w W w' K ∧ LawW w w' K hb pb [] (left + H.length) := by
  obtain ⟨F, hf, hF⟩ := h.ex
  refine (heap_drop left hf h.pool (by have := h.sum; omega)).mono ?_
  rintro e w' ⟨rfl, ho, hp, hh⟩
  exact ⟨rfl, h.turn hF ho hp hh (by have := h.sum; simp; omega)⟩

theorem LawW.pages (h : LawW w W K hb pb H left) :
    Calls Try.prog 44 #[.pointer (some ⟨hb, 0, none⟩)] W fun e w' => e = .returned (.int .i64 (H.length : Int)) ∧ W = w' := by
  obtain ⟨F, hf, hF⟩ := h.ex
  exact heap_pages hf

theorem LawW.used (h : LawW w W K hb pb H left) :
    Calls Try.prog 48 #[.pointer (some ⟨hb, 0, none⟩)] W fun e w' => e = .returned (.int .i64 (usedH H : Int)) ∧ ∃ n, w' = W.drewN n := by
  obtain ⟨F, hf, hF⟩ := h.ex
  exact heap_used hf

theorem LawW.poolLeft (h : LawW w W K hb pb H left) :
    Calls Try.prog 45 #[.pointer (some ⟨pb, 0, none⟩)] W fun e w' => e = .returned (.int .i64 (left : Int)) ∧ W = w' := pool_left pb left W h.pool

end

theorem wake7 : hIns [] 1 (tup0 200) = ((0, 0, 0), [[some (tup0 200)]], 0) ∧ hIns [[some (tup0 200)]] 0 (tup0 200) = ((0, 1, 0), [[some (tup0 200), some (tup0 200)]], 0) ∧ hIns [[some (tup0 200), some (tup0 200)]] 0 (tup0 200) = ((0, 0, 12), [[some (tup0 200), some (tup0 200)]], 0) ∧
    hFree [[some (tup0 200), some (tup0 200)]] 0 0 = (0, [[none, some (tup0 200)]]) ∧ hIns [[none, some (tup0 200)]] 0 (tup0 200) = ((0, 0, 0), [[some (tup0 200), some (tup0 200)]], 0) := by
  refine ⟨by kernel_rfl, by kernel_rfl, by kernel_rfl, by kernel_rfl, by kernel_rfl⟩

/-- Insert of a wide version, whose data lie in block db. -/
theorem LawW.wide {w W : World} {K : Nat → Prop} {hb pb : Nat} {H : List (List (Option Tup))} {left db k : Nat} (h : LawW w W K hb pb H left) (hd : Bk W db k 5 (fun _ => 0)) (hk : K db) {r : (Int × Int × Int) × List (List (Option Tup)) × Nat} (hr : hIns H left (tup0 k) = r) :
    Calls Try.prog 43 #[.pointer (some ⟨hb, 0, none⟩), .agg #[.int .u64 1, .int .u64 1, .int .u64 0, .int .i64 (-1), .int .i64 (-1), .slice (some ⟨db, 0, none⟩) k k]] W fun e w' => e = .returned (.tuple #[.agg #[.int .i64 r.1.1, .int .i64 r.1.2.1], .int .i64 r.1.2.2]) ∧ Turn w W w' K ∧ LawW w w' K hb pb r.2.1 r.2.2 := by
  have := h.insert (tup0 k) (some ⟨db, 0, none⟩) k _ (tup0_bytes k) (tup0_rdH hd) (fun j e => by rw [e]; exact hk)
  rw [tup0_vH, hr] at this
  exact this

theorem turn_quiet {w W W' : World} {K : Nat → Prop} (h : Quiet w W) (ho : Turn w W W' K) : Quiet w W' := h.trans' ho (fun k hk x => by have := x.2; omega)

set_option maxHeartbeats 1000000 in
set_option maxRecDepth 100000 in
theorem awake7 (w : World) :
    Calls Try.prog 39 #[] w fun e w' => e = .returned (.bool true) ∧ Quiet w w' := by
  go_enter Try.func39, Try.ntmps39
  go_wp2_with fail
  refine (pool_new 1 (by omega) w).mono ?_
  rintro e w1 ⟨rfl, hq1, hp1⟩
  have HQ1 := Lib.hid hq1
  have HP1 := Lib.hid hp1
  clear hq1 hp1
  go_wp2_with fail
  refine (heap_new _ _).mono ?_
  rintro e w2 ⟨hb, rfl, hq2, hh2⟩
  have HL2 := Lib.hid (LawW.start (K := fun _ => False) HQ1.out HP1.out (Nat.le_refl _) (by omega) hq2 hh2 (fun _ x => x.elim))
  clear hq2 hh2 HQ1 HP1
  go_wp2_with fail
  refine (wide_any _).mono ?_
  rintro e w3 ⟨db3, rfl, hq3, hd3, hs3⟩
  have HL3 := Lib.hid (HL2.out.fresh (K' := (· = db3)) hq3 (fun k e => ⟨Or.inr (by omega), by rw [e]; exact hd3.lt⟩))
  have HD3 := Lib.hid hd3
  clear hq3 hd3 hs3 HL2
  go_wp2_with fail
  refine (HL3.out.wide HD3.out rfl wake7.1).mono ?_
  rintro e w4 ⟨rfl, ho4, hl4⟩
  have HL5 := Lib.hid (hl4.fresh (K' := (· = w4.heap.size)) ((Only.refl (fun _ => False) w4).alloc (.cells #[.int .i64 0, .int .i64 0] 51)) (fun k e => ⟨Or.inr (by omega), by rw [e]; simp⟩))
  have HA5 := Lib.hid (alloc_new w4 (.cells #[.int .i64 0, .int .i64 0] 51))
  clear ho4 hl4 HL3 HD3
  go_wp2_with fail
  refine (wide_any _).mono ?_
  rintro e w6 ⟨db6, rfl, hq6, hd6, hs6⟩
  have HA6 := Lib.hid (hq6.get HA5.out (fun x => x))
  have HL6 := Lib.hid (HL5.out.fresh (K' := fun k => k = w4.heap.size ∨ k = db6) hq6 (fun k e => by rcases e with e | e; exact ⟨Or.inl e, by rw [e]; exact lt_of_get HA6.out⟩; exact ⟨Or.inr (by omega), by rw [e]; exact hd6.lt⟩))
  have HD6 := Lib.hid hd6
  clear hq6 hd6 hs6 HL5 HA5
  go_wp2_with fail
  refine (HL6.out.wide HD6.out (Or.inr rfl) wake7.2.1).mono ?_
  rintro e w7 ⟨rfl, ho7, hl7⟩
  have HA7 := Lib.hid (alloc_old (ho7.get HA6.out (fun x => x.1 (Or.inl rfl))) (.cells #[.int .i64 0, .int .i64 1] 51))
  have HL7 := Lib.hid (hl7.fresh (K' := (· = w4.heap.size)) ((Only.refl (fun _ => False) w7).alloc (.cells #[.int .i64 0, .int .i64 1] 51)) (fun k e => ⟨Or.inl (Or.inl e), by rw [e]; exact lt_of_get HA7.out⟩))
  clear ho7 hl7 HL6 HD6 HA6
  go_wp2_with fail
  refine (wide_any _).mono ?_
  rintro e w8 ⟨db8, rfl, hq8, hd8, hs8⟩
  have HA8 := Lib.hid (hq8.get HA7.out (fun x => x))
  have HL8 := Lib.hid (HL7.out.fresh (K' := fun k => k = w4.heap.size ∨ k = db8) hq8 (fun k e => by rcases e with e | e; exact ⟨Or.inl e, by rw [e]; exact lt_of_get HA8.out⟩; exact ⟨Or.inr (by omega), by rw [e]; exact hd8.lt⟩))
  have HD8 := Lib.hid hd8
  clear hq8 hd8 hs8 HL7 HA7
  go_wp2_with fail
  refine (HL8.out.wide HD8.out (Or.inr rfl) wake7.2.2.1).mono ?_
  rintro e w9 ⟨rfl, ho9, hl9⟩
  have HA9 := Lib.hid (alloc_old (ho9.get HA8.out (fun x => x.1 (Or.inl rfl))) (.cells #[.int .i64 0, .int .i64 0] 51))
  have HL9 := Lib.hid (hl9.fresh (K' := (· = w4.heap.size)) ((Only.refl (fun _ => False) w9).alloc (.cells #[.int .i64 0, .int .i64 0] 51)) (fun k e => ⟨Or.inl (Or.inl e), by rw [e]; exact lt_of_get HA9.out⟩))
  clear ho9 hl9 HL8 HD8 HA8
  obtain ⟨t0, t1⟩ : (w9.alloc (.cells #[.int .i64 0, .int .i64 0] 51)).cell? ⟨w4.heap.size, 0, none⟩ = some (.int .i64 0) ∧ (w9.alloc (.cells #[.int .i64 0, .int .i64 0] 51)).cell? ⟨w4.heap.size, 1, none⟩ = some (.int .i64 0) := ⟨by rw [cell_of HA9.out]; rfl, by rw [cell_of HA9.out]; rfl⟩
  have HFR := Lib.hid (HL9.out.free 0 0)
  rw [wake7.2.2.2.1] at HFR
  go_wp2_with fail
  refine HFR.out.mono ?_
  rintro e w10 ⟨rfl, ho10, hl10⟩
  have HA10 := Lib.hid (ho10.get HA9.out (fun x => x.1 rfl))
  have HL10 := Lib.hid hl10
  clear ho10 hl10 HL9 HA9 HFR t0 t1
  go_wp2_with fail
  refine (wide_any _).mono ?_
  rintro e w11 ⟨db11, rfl, hq11, hd11, hs11⟩
  have HA11 := Lib.hid (hq11.get HA10.out (fun x => x))
  have HL11 := Lib.hid (HL10.out.fresh (K' := fun k => k = w4.heap.size ∨ k = db11) hq11 (fun k e => by rcases e with e | e; exact ⟨Or.inl e, by rw [e]; exact lt_of_get HA11.out⟩; exact ⟨Or.inr (by omega), by rw [e]; exact hd11.lt⟩))
  have HD11 := Lib.hid hd11
  clear hq11 hd11 hs11 HL10 HA10
  go_wp2_with fail
  refine (HL11.out.wide HD11.out (Or.inr rfl) wake7.2.2.2.2).mono ?_
  rintro e w12 ⟨rfl, ho12, hl12⟩
  have HA12 := Lib.hid (alloc_old (ho12.get HA11.out (fun x => x.1 (Or.inl rfl))) (.cells #[.int .i64 0, .int .i64 0] 51))
  have HL12 := Lib.hid (hl12.fresh (K' := (· = w4.heap.size)) ((Only.refl (fun _ => False) w12).alloc (.cells #[.int .i64 0, .int .i64 0] 51)) (fun k e => ⟨Or.inl (Or.inl e), by rw [e]; exact lt_of_get HA12.out⟩))
  clear ho12 hl12 HL11 HD11 HA11
  obtain ⟨t0, t1⟩ : (w12.alloc (.cells #[.int .i64 0, .int .i64 0] 51)).cell? ⟨w4.heap.size, 0, none⟩ = some (.int .i64 0) ∧ (w12.alloc (.cells #[.int .i64 0, .int .i64 0] 51)).cell? ⟨w4.heap.size, 1, none⟩ = some (.int .i64 0) := ⟨by rw [cell_of HA12.out]; rfl, by rw [cell_of HA12.out]; rfl⟩
  go_wp2_with fail
  refine HL12.out.poolLeft.mono ?_
  rintro e w13 ⟨rfl, rfl⟩
  go_wp2
  go_ret
  exact ⟨rfl, HL12.out.quiet⟩
end Go.Proofs.Ytbibmgcklilpmaa
