/- The contract of the law's do: a call on a page and the document's. No condition. -/
import Derived.Test.YtbibmgcklilpmaaLastSome
import Derived.Test.YtbibmgcklilpmaaRef5b
import Derived.Test.YtbibmgcklilpmaaLast
import Derived.Deep.CutBlock
namespace Go.Proofs.Ytbibmgcklilpmaa
open Go.RowKit Go.Lap

theorem wrapU8 (r : Nat) (h : r < 256) : IntKind.u8.wrap (r : Int) = (r : Int) := by
  rw [IntKind.wrap_u8]
  omega

theorem own_putB {w : World} {e : TypeId} {g n c q : Nat} {xs : List Value} (h : w.ownsRow 0 e 1 (.slice (some ⟨g, 0, none⟩) n c) n xs) (hq : q < n) (u : Value) : (w.setCell ⟨g, q, none⟩ u).ownsRow 0 e 1 (.slice (some ⟨g, 0, none⟩) n c) n (xs.set q u) := by
  obtain ⟨h1, h2⟩ := h
  rcases h2 with ⟨z, _⟩ | ⟨g', cap, cur, hv, hg, hh, r1, r2, r3, r4⟩
  · cases z
  · injection hv with e1 _ e3
    injection e1 with e1
    injection e1 with e1 _ _
    subst e1 e3
    refine ⟨by simpa using h1, Or.inr ⟨g, c, cur.setIfInBounds q u, rfl, hg, set_same hh q u, r1, r2, by simpa using r3, ?_⟩⟩
    rw [Array.toList_setIfInBounds, Nat.mul_one, List.take_set]
    rw [Nat.mul_one] at r4
    rw [r4]

theorem own_rd {W : World} {A : Option Addr} {c : Nat} {l : List Nat} (h : W.ownsRow 0 5 1 (.slice A l.length c) l.length (bytesV l)) : Rd W (fun k => (Value.slice A l.length c).ownBlock = some k) 1 A l.length (bytesV l) := by
  obtain ⟨A5, c5, e5, _, _, hrd⟩ := own_form h
  injection e5 with e5 _ _
  subst e5
  exact hrd

theorem sameT_id (t : Tup) : sameT t t = true := by
  unfold sameT
  simp

/-- What do has of its own, in a later world. -/
structure DoAt (W : World) (Sd : Nat → Prop) (s0 dn : Nat) (i : Int) (t : Tup) (A' : Option Addr) (cap' x8 : Nat) (A1 : Option Addr) (n1 : Nat) (u : Tup) : Prop where
  op : W.heap[s0]? = some (.cells #[.int .u8 (dn : Int), .int .i64 i, .int .u64 (t.row : Int), .int .u64 (t.xmin : Int), .int .u64 (t.xmax : Int), .int .i64 t.pg, .int .i64 t.sl, .slice A' t.data.length cap'] 119 (0, 0))
  b8 : W.heap[x8]? = some (.cells #[.int .u64 (u.row : Int), .int .u64 (u.xmin : Int), .int .u64 (u.xmax : Int), .int .i64 u.pg, .int .i64 u.sl, .slice A1 u.data.length n1] 54 (0, 0))
  own1 : W.ownsRow 0 5 1 (.slice A1 u.data.length n1) u.data.length (bytesV u.data)
  rdo : Rd W Sd 1 A' t.data.length (bytesV t.data)

/-- What do leaves. -/
def DoPost (W : World) (P X : Option Nat) (S : Nat → Prop) (L : List Slot) (e : Ending) (w' : World) : Prop :=
  e = .returned (.tuple #[.pointer (pt P), .bool true]) ∧ Only (fun k => S k ∨ P = some k) W w' ∧ ∃ (S' : Nat → Prop) (L' : List Slot) (st' : Nat), BothAt w' P X S' L' st' L' st' ∧ (LastSome L → LastSome L') ∧ ∀ k, S' k → S k ∨ W.heap.size ≤ k

set_option maxHeartbeats 8000000 in
set_option maxRecDepth 100000 in
theorem do_any {W : World} {P X : Option Nat} {S Sd : Nat → Prop} {L : List Slot} {st : Nat} (dn : Nat) (i : Int) (t : Tup) (A' : Option Addr) (cap' : Nat) (hB : BothAt W P X S L st L st) (hdn : dn < 256) (h7 : dn % 8 ≠ 7) (hd : Rd W Sd 1 A' t.data.length (bytesV t.data)) (hS : ∀ k, Sd k → ¬ S k ∧ P ≠ some k) (hlc : t.data.length ≤ cap') (hcm : cap' ≤ maxLen) (hby : ∀ x ∈ t.data, x < 256) :
    Calls Try.prog 71 #[.pointer (pt P), .pointer (pt X), .agg #[.int .u8 (dn : Int), .int .i64 i, .int .u64 (t.row : Int), .int .u64 (t.xmin : Int), .int .u64 (t.xmax : Int), .int .i64 t.pg, .int .i64 t.sl, .slice A' t.data.length cap']] W (DoPost W P X S L) := by
  obtain ⟨POST, hPOST⟩ : ∃ POST, DoPost W P X S L = POST := ⟨_, rfl⟩
  rw [hPOST]
  have HPOST := Lib.hid hPOST
  clear hPOST
  have HB := Lib.hid hB
  have HGL : Hid (∀ k, (S k ∨ P = some k) → k < W.heap.size) := fun k x => by
    rcases x with x | x
    · exact hB.1 k x
    · exact (hB.plt x).1
  have HD := Lib.hid hd
  have HS := Lib.hid hS
  have HLC := Lib.hid hlc
  have HCM := Lib.hid hcm
  have HFEW : Hid (∀ W1, Rd W1 Sd 1 A' t.data.length (bytesV t.data) → Calls Try.prog 33 #[.agg #[.int .u64 (t.row : Int), .int .u64 (t.xmin : Int), .int .u64 (t.xmax : Int), .int .i64 t.pg, .int .i64 t.sl, .slice A' t.data.length cap']] W1 (TupPost W1 t.few)) := fun W1 h1 => few_any t A' cap' _ W1 h1 HLC.out HCM.out
  have HUB : Hid (∀ x ∈ t.few.data, x < 256) := fun x hx => hby x (List.mem_of_mem_take hx)
  have HUL : Hid (t.few.data.length ≤ 230) := by show (t.data.take 230).length ≤ 230; rw [List.length_take]; omega
  have HO0 := Lib.hid (alloc_new W (.cells #[.int .u8 (dn : Int), .int .i64 i, .int .u64 (t.row : Int), .int .u64 (t.xmin : Int), .int .u64 (t.xmax : Int), .int .i64 t.pg, .int .i64 t.sl, .slice A' t.data.length cap'] 119))
  have HQ0 : Hid (Quiet W (W.alloc (.cells #[.int .u8 (dn : Int), .int .i64 i, .int .u64 (t.row : Int), .int .u64 (t.xmin : Int), .int .u64 (t.xmax : Int), .int .i64 t.pg, .int .i64 t.sl, .slice A' t.data.length cap'] 119))) := (Only.refl _ _).alloc _
  obtain ⟨u, hu⟩ : ∃ u, t.few = u := ⟨_, rfl⟩
  rw [hu] at HFEW HUB HUL
  clear hB hd hS hlc hcm hby hu
  go_enter Try.func71, Try.ntmps71
  go_wp2_with fail
  refine (HFEW.out _ (HD.out.kept HQ0.out (fun _ _ x => x))).mono ?_
  rintro e w1 ⟨A1, n1, rfl, hf1⟩
  unfold tupV
  have HQ1 := Lib.hid (HQ0.out.trans hf1.quiet)
  have HO1 := Lib.hid (hf1.quiet.get HO0.out (fun x => x))
  have HR1 := Lib.hid hf1.own
  have HN1 : Hid (∀ k, (Value.slice A1 u.data.length n1).ownBlock = some k → W.heap.size ≤ k) := fun k e => by have h1 := hf1.new k e; have h2 := HQ0.out.size; omega
  clear hf1
  go_upto_region 2 with fail
  have HQA : Hid (Quiet W (w1.alloc (.cells #[.int .u64 (u.row : Int), .int .u64 (u.xmin : Int), .int .u64 (u.xmax : Int), .int .i64 u.pg, .int .i64 u.sl, .slice A1 u.data.length n1] 54))) := HQ1.out.alloc _
  have hx8 : W.heap.size ≤ w1.heap.size := HQ1.out.size
  have HDA : Hid (∀ W', Only (fun k => S k ∨ P = some k) (w1.alloc (.cells #[.int .u64 (u.row : Int), .int .u64 (u.xmin : Int), .int .u64 (u.xmax : Int), .int .i64 u.pg, .int .i64 u.sl, .slice A1 u.data.length n1] 54)) W' → DoAt W' Sd W.heap.size dn i t A' cap' w1.heap.size A1 n1 u) := fun W' ho => by
    have q1 : Quiet w1 (w1.alloc (.cells #[.int .u64 (u.row : Int), .int .u64 (u.xmin : Int), .int .u64 (u.xmax : Int), .int .i64 u.pg, .int .i64 u.sl, .slice A1 u.data.length n1] 54)) := (Only.refl _ _).alloc _
    refine ⟨ho.get (alloc_old HO1.out _) (fun x => by have := HGL.out _ x; omega), ho.get (alloc_new _ _) (fun x => by have := HGL.out _ x; omega), owns_kept (owns_kept HR1.out q1 (fun _ _ x => x)) ho (fun k e x => by have h1 := HGL.out _ x; have h2 := HN1.out k e; omega), (HD.out.kept HQA.out (fun _ _ x => x)).kept ho (fun k x y => ?_)⟩
    rcases y with y | y
    · exact (HS.out k x).1 y
    · exact (HS.out k x).2 y
  have HBA := Lib.hid (HB.out.quietly HQA.out)
  generalize w1.alloc (.cells #[.int .u64 (u.row : Int), .int .u64 (u.xmin : Int), .int .u64 (u.xmax : Int), .int .i64 u.pg, .int .i64 u.sl, .slice A1 u.data.length n1] 54) = wa at HQA HDA HBA ⊢
  generalize w1.heap.size = x8 at HDA hx8 ⊢
  clear HQ0 HQ1 HO0 HO1 HR1 HD HB HS
  have HDW := Lib.hid (HDA.out wa (Only.refl _ _))
  have ho0 : wa.cell? ⟨W.heap.size, 0, none⟩ = some (.int .u8 (dn : Int)) := by rw [cell_of HDW.out.op]; rfl
  obtain ⟨r8, hr8⟩ : ∃ r8, dn % 8 = r8 := ⟨_, rfl⟩
  rw [hr8] at h7
  have ht8 : (dn : Int).tmod 8 = (r8 : Int) := by rw [Int.tmod_eq_emod_of_nonneg (by omega)]; omega
  have hw8 : IntKind.u8.wrap (r8 : Int) = (r8 : Int) := wrapU8 r8 (by omega)
  have d7 : ((r8 : Int) == 7) = false := beq_eq_false_iff_ne.2 (by omega)
  obtain ⟨s0, hs0⟩ : ∃ s0, W.heap.size = s0 := ⟨_, rfl⟩
  have HSW := Lib.hid hs0
  rw [hs0] at HDA HDW ho0 hx8
  try rw [hs0]
  clear hs0
  by_cases h4 : r8 = 4
  · subst h4
    as_aux_lemma =>
      have HSX : Hid (∀ W', Only (fun k => S k ∨ P = some k) wa W' → (fun w' => w'.cell? ⟨s0, 1, none⟩ = some (.int .i64 i) ∧ w'.cell? ⟨x8, 2, none⟩ = some (.int .u64 (u.xmax : Int)) ∧ w'.cell? ⟨x8, 3, none⟩ = some (.int .i64 u.pg) ∧ w'.cell? ⟨x8, 4, none⟩ = some (.int .i64 u.sl)) W') := fun W' ho => by
        have h := HDA.out W' ho
        exact ⟨by rw [cell_of h.op]; rfl, by rw [cell_of h.b8]; rfl, by rw [cell_of h.b8]; rfl, by rw [cell_of h.b8]; rfl⟩
      obtain ⟨rr, hrr⟩ : ∃ rr, nStampL P.isSome L i u.xmax u.pg u.sl = rr := ⟨_, rfl⟩
      have HRR := Lib.hid hrr
      have HA := Lib.hid ((HBA.out.quietly (Only.refl (fun _ => False) wa).drew).stampP i u.xmax u.pg u.sl hrr)
      clear hrr
      go_upto_region 4 with fail
      refine wp_region_held_drew (S := (fun w' => w'.cell? ⟨s0, 1, none⟩ = some (.int .i64 i) ∧ w'.cell? ⟨x8, 2, none⟩ = some (.int .u64 (u.xmax : Int)) ∧ w'.cell? ⟨x8, 3, none⟩ = some (.int .i64 u.pg) ∧ w'.cell? ⟨x8, 4, none⟩ = some (.int .i64 u.sl))) (by kernel_rfl) (HSX.out _ ((Only.refl _ wa).drew)) (fun hHeld => ?_)
      simp only [List.size_toArray, List.length_cons, List.length_nil, Nat.reduceAdd]
      (refine wpAnyH_take (i := 0) (oi := ?_) (v := ?_) ?_ (by kernel_rfl) (by decide +kernel) (by decide +kernel) ?_ (Or.inl ⟨?_, ?_⟩) (by first | assumption | exact trivial) ?_; rotate_left 2; (focus (simp only [List.getElem?_toArray, List.getElem?_cons_zero, List.getElem?_cons_succ] <;> rfl)); (focus (exact fun _ _ _ h => h)); (focus rfl); (focus (intro w hSw; (try dsimp only at hSw); go_simp; (try with_reducible rfl); done)); (try simp only [Act.put, List.setIfInBounds_toArray, List.set_cons_zero, List.set_cons_succ]))
      (refine wpAnyH_take (i := 1) (oi := ?_) (v := ?_) ?_ (by kernel_rfl) (by decide +kernel) (by decide +kernel) ?_ (Or.inl ⟨?_, ?_⟩) (by first | assumption | exact trivial) ?_; rotate_left 2; (focus (simp only [List.getElem?_toArray, List.getElem?_cons_zero, List.getElem?_cons_succ] <;> rfl)); (focus (exact fun _ _ _ h => h)); (focus rfl); (focus (intro w hSw; (try dsimp only at hSw); go_simp; (try with_reducible rfl); done)); (try simp only [Act.put, List.setIfInBounds_toArray, List.set_cons_zero, List.set_cons_succ]))
      (refine wpAnyH_take (i := 2) (oi := ?_) (v := ?_) ?_ (by kernel_rfl) (by decide +kernel) (by decide +kernel) ?_ (Or.inl ⟨?_, ?_⟩) (by first | assumption | exact trivial) ?_; rotate_left 2; (focus (simp only [List.getElem?_toArray, List.getElem?_cons_zero, List.getElem?_cons_succ] <;> rfl)); (focus (exact fun _ _ _ h => h)); (focus rfl); (focus (intro w hSw; (try dsimp only at hSw); go_simp; (try with_reducible rfl); done)); (try simp only [Act.put, List.setIfInBounds_toArray, List.set_cons_zero, List.set_cons_succ]))
      (refine wpAnyH_take (i := 3) (oi := ?_) (v := ?_) ?_ (by kernel_rfl) (by decide +kernel) (by decide +kernel) ?_ (Or.inl ⟨?_, ?_⟩) (by first | assumption | exact trivial) ?_; rotate_left 2; (focus (simp only [List.getElem?_toArray, List.getElem?_cons_zero, List.getElem?_cons_succ] <;> rfl)); (focus (exact fun _ _ _ h => h)); (focus rfl); (focus (intro w hSw; (try dsimp only at hSw); go_simp; (try with_reducible rfl); done)); (try simp only [Act.put, List.setIfInBounds_toArray, List.set_cons_zero, List.set_cons_succ]))
      (refine wpAnyH_take (i := 4) (oi := ?_) (v := ?_) ?_ (by kernel_rfl) (by decide +kernel) (by decide +kernel) ?_ (Or.inl ⟨?_, ?_⟩) (by first | assumption | exact trivial) ?_; rotate_left 2; (focus (simp only [List.getElem?_toArray, List.getElem?_cons_zero, List.getElem?_cons_succ] <;> rfl)); (focus (exact fun _ _ _ h => h)); (focus rfl); (focus (intro w hSw; (try dsimp only at hSw); go_simp; (try with_reducible rfl); done)); (try simp only [Act.put, List.setIfInBounds_toArray, List.set_cons_zero, List.set_cons_succ]))
      (refine wpAnyH_take (i := 5) (oi := ?_) (v := ?_) ?_ (by kernel_rfl) (by decide +kernel) (by decide +kernel) ?_ (Or.inl ⟨?_, ?_⟩) (by first | assumption | exact trivial) ?_; rotate_left 2; (focus (simp only [List.getElem?_toArray, List.getElem?_cons_zero, List.getElem?_cons_succ] <;> rfl)); (focus (exact fun _ _ _ h => h)); (focus rfl); (focus (intro w hSw; (try dsimp only at hSw); go_simp; (try with_reducible rfl); done)); (try simp only [Act.put, List.setIfInBounds_toArray, List.set_cons_zero, List.set_cons_succ]))
      (refine wpAnyH_take (i := 6) (oi := ?_) (v := ?_) ?_ (by kernel_rfl) (by decide +kernel) (by decide +kernel) ?_ (Or.inl ⟨?_, ?_⟩) (by first | assumption | exact trivial) ?_; rotate_left 2; (focus (simp only [List.getElem?_toArray, List.getElem?_cons_zero, List.getElem?_cons_succ] <;> rfl)); (focus (exact fun _ _ _ h => h)); (focus rfl); (focus (intro w hSw; (try dsimp only at hSw); go_simp; (try with_reducible rfl); done)); (try simp only [Act.put, List.setIfInBounds_toArray, List.set_cons_zero, List.set_cons_succ]))
      (refine wpAnyH_take (i := 7) (oi := ?_) (v := ?_) ?_ (by kernel_rfl) (by decide +kernel) (by decide +kernel) ?_ (Or.inl ⟨?_, ?_⟩) (by first | assumption | exact trivial) ?_; rotate_left 2; (focus (simp only [List.getElem?_toArray, List.getElem?_cons_zero, List.getElem?_cons_succ] <;> rfl)); (focus (exact fun _ _ _ h => h)); (focus rfl); (focus (intro w hSw; (try dsimp only at hSw); go_simp; (try with_reducible rfl); done)); (try simp only [Act.put, List.setIfInBounds_toArray, List.set_cons_zero, List.set_cons_succ]))
      (refine wpAnyH_take (i := 9) (oi := ?_) (v := ?_) ?_ (by kernel_rfl) (by decide +kernel) (by decide +kernel) ?_ (Or.inl ⟨?_, ?_⟩) (by first | assumption | exact trivial) ?_; rotate_left 2; (focus (simp only [List.getElem?_toArray, List.getElem?_cons_zero, List.getElem?_cons_succ] <;> rfl)); (focus (exact fun _ _ _ h => h)); (focus rfl); (focus (intro w hSw; (try dsimp only at hSw); go_simp; (try with_reducible rfl); done)); (try simp only [Act.put, List.setIfInBounds_toArray, List.set_cons_zero, List.set_cons_succ]))
      (refine wpAnyH_take (i := 10) (oi := ?_) (v := ?_) ?_ (by kernel_rfl) (by decide +kernel) (by decide +kernel) ?_ (Or.inl ⟨?_, ?_⟩) (by first | assumption | exact trivial) ?_; rotate_left 2; (focus (simp only [List.getElem?_toArray, List.getElem?_cons_zero, List.getElem?_cons_succ] <;> rfl)); (focus (exact fun _ _ _ h => h)); (focus rfl); (focus (intro w hSw; (try dsimp only at hSw); go_simp; (try with_reducible rfl); done)); (try simp only [Act.put, List.setIfInBounds_toArray, List.set_cons_zero, List.set_cons_succ]))
      (refine wpAnyH_take (i := 11) (oi := ?_) (v := ?_) ?_ (by kernel_rfl) (by decide +kernel) (by decide +kernel) ?_ (Or.inl ⟨?_, ?_⟩) (by first | assumption | exact trivial) ?_; rotate_left 2; (focus (simp only [List.getElem?_toArray, List.getElem?_cons_zero, List.getElem?_cons_succ] <;> rfl)); (focus (exact fun _ _ _ h => h)); (focus rfl); (focus (intro w hSw; (try dsimp only at hSw); go_simp; (try with_reducible rfl); done)); (try simp only [Act.put, List.setIfInBounds_toArray, List.set_cons_zero, List.set_cons_succ]))
      (refine wpAnyH_take (i := 12) (oi := ?_) (v := ?_) ?_ (by kernel_rfl) (by decide +kernel) (by decide +kernel) ?_ (Or.inl ⟨?_, ?_⟩) (by first | assumption | exact trivial) ?_; rotate_left 2; (focus (simp only [List.getElem?_toArray, List.getElem?_cons_zero, List.getElem?_cons_succ] <;> rfl)); (focus (exact fun _ _ _ h => h)); (focus rfl); (focus (intro w hSw; (try dsimp only at hSw); go_simp; (try with_reducible rfl); done)); (try simp only [Act.put, List.setIfInBounds_toArray, List.set_cons_zero, List.set_cons_succ]))
      (refine wpAnyH_take (i := 13) (oi := ?_) (v := ?_) ?_ (by kernel_rfl) (by decide +kernel) (by decide +kernel) ?_ (Or.inl ⟨?_, ?_⟩) (by first | assumption | exact trivial) ?_; rotate_left 2; (focus (simp only [List.getElem?_toArray, List.getElem?_cons_zero, List.getElem?_cons_succ] <;> rfl)); (focus (exact fun _ _ _ h => h)); (focus rfl); (focus (intro w hSw; (try dsimp only at hSw); go_simp; (try with_reducible rfl); done)); (try simp only [Act.put, List.setIfInBounds_toArray, List.set_cons_zero, List.set_cons_succ]))
      (refine wpAnyH_take (i := 14) (oi := ?_) (v := ?_) ?_ (by kernel_rfl) (by decide +kernel) (by decide +kernel) ?_ (Or.inl ⟨?_, ?_⟩) (by first | assumption | exact trivial) ?_; rotate_left 2; (focus (simp only [List.getElem?_toArray, List.getElem?_cons_zero, List.getElem?_cons_succ] <;> rfl)); (focus (exact fun _ _ _ h => h)); (focus rfl); (focus (intro w hSw; (try dsimp only at hSw); go_simp; (try with_reducible rfl); done)); (try simp only [Act.put, List.setIfInBounds_toArray, List.set_cons_zero, List.set_cons_succ]))
      (refine wpAnyH_take (i := 15) (oi := ?_) (v := ?_) ?_ (by kernel_rfl) (by decide +kernel) (by decide +kernel) ?_ (Or.inl ⟨?_, ?_⟩) (by first | assumption | exact trivial) ?_; rotate_left 2; (focus (simp only [List.getElem?_toArray, List.getElem?_cons_zero, List.getElem?_cons_succ] <;> rfl)); (focus (exact fun _ _ _ h => h)); (focus rfl); (focus (intro w hSw; (try dsimp only at hSw); go_simp; (try with_reducible rfl); done)); (try simp only [Act.put, List.setIfInBounds_toArray, List.set_cons_zero, List.set_cons_succ]))
      refine wpAnyH_ready (rs := [8]) (by kernel_rfl) (by simp) ?_
      refine AllReadyH.cons (o := ?_) ?_ ?_ AllReadyH.nil
      rotate_left 1
      (focus (simp only [List.getElem?_toArray, List.getElem?_cons_zero, List.getElem?_cons_succ] <;> rfl))
      intro K hK
      go_simp
      go_at_call 35
      refine (HA.out).mono ?_
      rintro e w6 ⟨rfl, ho6, hb6⟩
      have HT6 : Hid (Only (fun k => S k ∨ P = some k) wa w6) := (Only.refl (fun k => S k ∨ P = some k) wa).drew.trans (ho6.mono (fun _ _ x => Or.inr x))
      have HB6 := Lib.hid (hb6.stampX i u.xmax u.pg u.sl HRR.out)
      clear ho6 hb6 HA
      dsimp only
      refine hK.out _ _ ?_ (fun hHeld => ?_)
      · exact HSX.out _ HT6.out
      clear hK K
      (try simp only [Act.put, List.setIfInBounds_toArray, List.set_cons_zero, List.set_cons_succ])
      refine wpAnyH_ready (rs := [16]) (by kernel_rfl) (by simp) ?_
      refine AllReadyH.cons (o := ?_) ?_ ?_ AllReadyH.nil
      rotate_left 1
      (focus (simp only [List.getElem?_toArray, List.getElem?_cons_zero, List.getElem?_cons_succ] <;> rfl))
      intro K hK
      go_simp
      go_at_call 88
      refine (HB6.out).mono ?_
      rintro e w7 ⟨rfl, ho7, hb7⟩
      have HT7 : Hid (Only (fun k => S k ∨ P = some k) wa w7) := HT6.out.trans (ho7.mono (fun _ _ x => Or.inl x))
      have HB7 := Lib.hid hb7
      clear ho7 hb7 HB6
      dsimp only
      refine hK.out _ _ ?_ (fun hHeld => ?_)
      · exact HSX.out _ HT7.out
      clear hK K
      (try simp only [Act.put, List.setIfInBounds_toArray, List.set_cons_zero, List.set_cons_succ])
      (refine wpAnyH_take (i := 17) (oi := ?_) (v := ?_) ?_ (by kernel_rfl) (by decide +kernel) (by decide +kernel) ?_ (Or.inl ⟨?_, ?_⟩) (by first | assumption | exact trivial) ?_; rotate_left 2; (focus (simp only [List.getElem?_toArray, List.getElem?_cons_zero, List.getElem?_cons_succ] <;> rfl)); (focus (exact fun _ _ _ h => h)); (focus rfl); (focus (intro w hSw; (try dsimp only at hSw); go_simp; (try with_reducible rfl); done)); (try simp only [Act.put, List.setIfInBounds_toArray, List.set_cons_zero, List.set_cons_succ]))
      refine wpAnyH_ready (rs := [18]) (by kernel_rfl) (by simp) ?_
      refine AllReadyH.cons (o := ?_) ?_ ?_ AllReadyH.nil
      rotate_left 1
      (focus (simp only [List.getElem?_toArray, List.getElem?_cons_zero, List.getElem?_cons_succ] <;> rfl))
      intro K hK
      go_simp
      refine hK.out _ _ ?_ (fun hHeld => ?_)
      · exact HSX.out _ HT7.out
      clear hK K
      (try simp only [Act.put, List.setIfInBounds_toArray, List.set_cons_zero, List.set_cons_succ])
      refine wpAnyH_ready (rs := [19]) (by kernel_rfl) (by simp) ?_
      refine AllReadyH.cons (o := ?_) ?_ ?_ AllReadyH.nil
      rotate_left 1
      (focus (simp only [List.getElem?_toArray, List.getElem?_cons_zero, List.getElem?_cons_succ] <;> rfl))
      intro K hK
      go_simp
      refine hK.out _ _ ?_ (fun hHeld => ?_)
      · exact HSX.out _ HT7.out
      clear hK K
      (try simp only [Act.put, List.setIfInBounds_toArray, List.set_cons_zero, List.set_cons_succ])
      refine wpAnyH_done (by kernel_rfl) ?_ _
      clear hHeld HSX
      go_wp2
      rw [← HPOST.out]
      unfold DoPost
      exact ⟨rfl, (HQA.out.mono (T := (fun k => S k ∨ P = some k)) (fun _ _ x => x.elim)).trans HT7.out, _, rr.2, st, HB7.out, last_nStamp HRR.out, fun k x => by
        rcases x.1 with y | y
        · exact Or.inl y
        · exact Or.inr (by have h1 := HQA.out.size; have h2 := HT6.out.size; omega)⟩
  · have d4 : ((r8 : Int) == 4) = false := beq_eq_false_iff_ne.2 (by omega)
    by_cases h5 : r8 = 5
    · subst h5
      clear d4
      as_aux_lemma =>
        have HSX : Hid (∀ W', Only (fun k => S k ∨ P = some k) wa W' → (fun w' => w'.cell? ⟨s0, 1, none⟩ = some (.int .i64 i)) W') := fun W' ho => by
          have h := HDA.out W' ho
          show _ = _
          rw [cell_of h.op]; rfl
        obtain ⟨rr, hrr⟩ : ∃ rr, nFreeL P.isSome L i = rr := ⟨_, rfl⟩
        have HRR := Lib.hid hrr
        have HA := Lib.hid ((HBA.out.quietly (Only.refl (fun _ => False) wa).drew).freeP i hrr)
        clear hrr
        go_upto_region 7 with fail
        refine wp_region_held_drew (S := (fun w' => w'.cell? ⟨s0, 1, none⟩ = some (.int .i64 i))) (by kernel_rfl) (HSX.out _ ((Only.refl _ wa).drew)) (fun hHeld => ?_)
        simp only [List.size_toArray, List.length_cons, List.length_nil, Nat.reduceAdd]
        (refine wpAnyH_take (i := 0) (oi := ?_) (v := ?_) ?_ (by kernel_rfl) (by decide +kernel) (by decide +kernel) ?_ (Or.inl ⟨?_, ?_⟩) (by first | assumption | exact trivial) ?_; rotate_left 2; (focus (simp only [List.getElem?_toArray, List.getElem?_cons_zero, List.getElem?_cons_succ] <;> rfl)); (focus (exact fun _ _ _ h => h)); (focus rfl); (focus (intro w hSw; (try dsimp only at hSw); go_simp; (try with_reducible rfl); done)); (try simp only [Act.put, List.setIfInBounds_toArray, List.set_cons_zero, List.set_cons_succ]))
        (refine wpAnyH_take (i := 1) (oi := ?_) (v := ?_) ?_ (by kernel_rfl) (by decide +kernel) (by decide +kernel) ?_ (Or.inl ⟨?_, ?_⟩) (by first | assumption | exact trivial) ?_; rotate_left 2; (focus (simp only [List.getElem?_toArray, List.getElem?_cons_zero, List.getElem?_cons_succ] <;> rfl)); (focus (exact fun _ _ _ h => h)); (focus rfl); (focus (intro w hSw; (try dsimp only at hSw); go_simp; (try with_reducible rfl); done)); (try simp only [Act.put, List.setIfInBounds_toArray, List.set_cons_zero, List.set_cons_succ]))
        (refine wpAnyH_take (i := 2) (oi := ?_) (v := ?_) ?_ (by kernel_rfl) (by decide +kernel) (by decide +kernel) ?_ (Or.inl ⟨?_, ?_⟩) (by first | assumption | exact trivial) ?_; rotate_left 2; (focus (simp only [List.getElem?_toArray, List.getElem?_cons_zero, List.getElem?_cons_succ] <;> rfl)); (focus (exact fun _ _ _ h => h)); (focus rfl); (focus (intro w hSw; (try dsimp only at hSw); go_simp; (try with_reducible rfl); done)); (try simp only [Act.put, List.setIfInBounds_toArray, List.set_cons_zero, List.set_cons_succ]))
        (refine wpAnyH_take (i := 3) (oi := ?_) (v := ?_) ?_ (by kernel_rfl) (by decide +kernel) (by decide +kernel) ?_ (Or.inl ⟨?_, ?_⟩) (by first | assumption | exact trivial) ?_; rotate_left 2; (focus (simp only [List.getElem?_toArray, List.getElem?_cons_zero, List.getElem?_cons_succ] <;> rfl)); (focus (exact fun _ _ _ h => h)); (focus rfl); (focus (intro w hSw; (try dsimp only at hSw); go_simp; (try with_reducible rfl); done)); (try simp only [Act.put, List.setIfInBounds_toArray, List.set_cons_zero, List.set_cons_succ]))
        (refine wpAnyH_take (i := 5) (oi := ?_) (v := ?_) ?_ (by kernel_rfl) (by decide +kernel) (by decide +kernel) ?_ (Or.inl ⟨?_, ?_⟩) (by first | assumption | exact trivial) ?_; rotate_left 2; (focus (simp only [List.getElem?_toArray, List.getElem?_cons_zero, List.getElem?_cons_succ] <;> rfl)); (focus (exact fun _ _ _ h => h)); (focus rfl); (focus (intro w hSw; (try dsimp only at hSw); go_simp; (try with_reducible rfl); done)); (try simp only [Act.put, List.setIfInBounds_toArray, List.set_cons_zero, List.set_cons_succ]))
        (refine wpAnyH_take (i := 6) (oi := ?_) (v := ?_) ?_ (by kernel_rfl) (by decide +kernel) (by decide +kernel) ?_ (Or.inl ⟨?_, ?_⟩) (by first | assumption | exact trivial) ?_; rotate_left 2; (focus (simp only [List.getElem?_toArray, List.getElem?_cons_zero, List.getElem?_cons_succ] <;> rfl)); (focus (exact fun _ _ _ h => h)); (focus rfl); (focus (intro w hSw; (try dsimp only at hSw); go_simp; (try with_reducible rfl); done)); (try simp only [Act.put, List.setIfInBounds_toArray, List.set_cons_zero, List.set_cons_succ]))
        (refine wpAnyH_take (i := 7) (oi := ?_) (v := ?_) ?_ (by kernel_rfl) (by decide +kernel) (by decide +kernel) ?_ (Or.inl ⟨?_, ?_⟩) (by first | assumption | exact trivial) ?_; rotate_left 2; (focus (simp only [List.getElem?_toArray, List.getElem?_cons_zero, List.getElem?_cons_succ] <;> rfl)); (focus (exact fun _ _ _ h => h)); (focus rfl); (focus (intro w hSw; (try dsimp only at hSw); go_simp; (try with_reducible rfl); done)); (try simp only [Act.put, List.setIfInBounds_toArray, List.set_cons_zero, List.set_cons_succ]))
        refine wpAnyH_ready (rs := [4]) (by kernel_rfl) (by simp) ?_
        refine AllReadyH.cons (o := ?_) ?_ ?_ AllReadyH.nil
        rotate_left 1
        (focus (simp only [List.getElem?_toArray, List.getElem?_cons_zero, List.getElem?_cons_succ] <;> rfl))
        intro K hK
        go_simp
        go_at_call 31
        refine (HA.out).mono ?_
        rintro e w6 ⟨rfl, ho6, hb6⟩
        have HT6 : Hid (Only (fun k => S k ∨ P = some k) wa w6) := (Only.refl (fun k => S k ∨ P = some k) wa).drew.trans (ho6.mono (fun _ _ x => Or.inr x))
        have HB6 := Lib.hid (hb6.freeX i HRR.out)
        clear ho6 hb6 HA
        dsimp only
        refine hK.out _ _ ?_ (fun hHeld => ?_)
        · exact HSX.out _ HT6.out
        clear hK K
        (try simp only [Act.put, List.setIfInBounds_toArray, List.set_cons_zero, List.set_cons_succ])
        refine wpAnyH_ready (rs := [8]) (by kernel_rfl) (by simp) ?_
        refine AllReadyH.cons (o := ?_) ?_ ?_ AllReadyH.nil
        rotate_left 1
        (focus (simp only [List.getElem?_toArray, List.getElem?_cons_zero, List.getElem?_cons_succ] <;> rfl))
        intro K hK
        go_simp
        go_at_call 90
        refine (HB6.out).mono ?_
        rintro e w7 ⟨rfl, ho7, hb7⟩
        have HT7 : Hid (Only (fun k => S k ∨ P = some k) wa w7) := HT6.out.trans (ho7.mono (fun _ _ x => Or.inl x))
        have HB7 := Lib.hid hb7
        clear ho7 hb7 HB6
        dsimp only
        refine hK.out _ _ ?_ (fun hHeld => ?_)
        · exact HSX.out _ HT7.out
        clear hK K
        (try simp only [Act.put, List.setIfInBounds_toArray, List.set_cons_zero, List.set_cons_succ])
        (refine wpAnyH_take (i := 9) (oi := ?_) (v := ?_) ?_ (by kernel_rfl) (by decide +kernel) (by decide +kernel) ?_ (Or.inl ⟨?_, ?_⟩) (by first | assumption | exact trivial) ?_; rotate_left 2; (focus (simp only [List.getElem?_toArray, List.getElem?_cons_zero, List.getElem?_cons_succ] <;> rfl)); (focus (exact fun _ _ _ h => h)); (focus rfl); (focus (intro w hSw; (try dsimp only at hSw); go_simp; (try with_reducible rfl); done)); (try simp only [Act.put, List.setIfInBounds_toArray, List.set_cons_zero, List.set_cons_succ]))
        refine wpAnyH_ready (rs := [10]) (by kernel_rfl) (by simp) ?_
        refine AllReadyH.cons (o := ?_) ?_ ?_ AllReadyH.nil
        rotate_left 1
        (focus (simp only [List.getElem?_toArray, List.getElem?_cons_zero, List.getElem?_cons_succ] <;> rfl))
        intro K hK
        go_simp
        refine hK.out _ _ ?_ (fun hHeld => ?_)
        · exact HSX.out _ HT7.out
        clear hK K
        (try simp only [Act.put, List.setIfInBounds_toArray, List.set_cons_zero, List.set_cons_succ])
        refine wpAnyH_ready (rs := [11]) (by kernel_rfl) (by simp) ?_
        refine AllReadyH.cons (o := ?_) ?_ ?_ AllReadyH.nil
        rotate_left 1
        (focus (simp only [List.getElem?_toArray, List.getElem?_cons_zero, List.getElem?_cons_succ] <;> rfl))
        intro K hK
        go_simp
        refine hK.out _ _ ?_ (fun hHeld => ?_)
        · exact HSX.out _ HT7.out
        clear hK K
        (try simp only [Act.put, List.setIfInBounds_toArray, List.set_cons_zero, List.set_cons_succ])
        refine wpAnyH_done (by kernel_rfl) ?_ _
        clear hHeld HSX
        go_wp2
        rw [← HPOST.out]
        unfold DoPost
        exact ⟨rfl, (HQA.out.mono (T := (fun k => S k ∨ P = some k)) (fun _ _ x => x.elim)).trans HT7.out, _, rr.2, st, HB7.out, last_nFree HRR.out, fun k x => by
          rcases x.1 with y | y
          · exact Or.inl y
          · exact Or.inr (by have h1 := HQA.out.size; have h2 := HT6.out.size; omega)⟩
    · have d5 : ((r8 : Int) == 5) = false := beq_eq_false_iff_ne.2 (by omega)
      by_cases h6 : r8 = 6
      · subst h6
        clear d4 d5
        as_aux_lemma =>
          have HSX : Hid (∀ W', Only (fun k => S k ∨ P = some k) wa W' → (fun w' => w'.cell? ⟨s0, 1, none⟩ = some (.int .i64 i)) W') := fun W' ho => by
            have h := HDA.out W' ho
            show _ = _
            rw [cell_of h.op]; rfl
          obtain ⟨rr, hrr⟩ : ∃ rr, nFreeL P.isSome L i = rr := ⟨_, rfl⟩
          have HRR := Lib.hid hrr
          have HA := Lib.hid ((HBA.out.quietly (Only.refl (fun _ => False) wa).drew).freeP i hrr)
          clear hrr
          go_upto_region 7 with fail
          refine wp_region_held_drew (S := (fun w' => w'.cell? ⟨s0, 1, none⟩ = some (.int .i64 i))) (by kernel_rfl) (HSX.out _ ((Only.refl _ wa).drew)) (fun hHeld => ?_)
          simp only [List.size_toArray, List.length_cons, List.length_nil, Nat.reduceAdd]
          (refine wpAnyH_take (i := 0) (oi := ?_) (v := ?_) ?_ (by kernel_rfl) (by decide +kernel) (by decide +kernel) ?_ (Or.inl ⟨?_, ?_⟩) (by first | assumption | exact trivial) ?_; rotate_left 2; (focus (simp only [List.getElem?_toArray, List.getElem?_cons_zero, List.getElem?_cons_succ] <;> rfl)); (focus (exact fun _ _ _ h => h)); (focus rfl); (focus (intro w hSw; (try dsimp only at hSw); go_simp; (try with_reducible rfl); done)); (try simp only [Act.put, List.setIfInBounds_toArray, List.set_cons_zero, List.set_cons_succ]))
          (refine wpAnyH_take (i := 1) (oi := ?_) (v := ?_) ?_ (by kernel_rfl) (by decide +kernel) (by decide +kernel) ?_ (Or.inl ⟨?_, ?_⟩) (by first | assumption | exact trivial) ?_; rotate_left 2; (focus (simp only [List.getElem?_toArray, List.getElem?_cons_zero, List.getElem?_cons_succ] <;> rfl)); (focus (exact fun _ _ _ h => h)); (focus rfl); (focus (intro w hSw; (try dsimp only at hSw); go_simp; (try with_reducible rfl); done)); (try simp only [Act.put, List.setIfInBounds_toArray, List.set_cons_zero, List.set_cons_succ]))
          (refine wpAnyH_take (i := 2) (oi := ?_) (v := ?_) ?_ (by kernel_rfl) (by decide +kernel) (by decide +kernel) ?_ (Or.inl ⟨?_, ?_⟩) (by first | assumption | exact trivial) ?_; rotate_left 2; (focus (simp only [List.getElem?_toArray, List.getElem?_cons_zero, List.getElem?_cons_succ] <;> rfl)); (focus (exact fun _ _ _ h => h)); (focus rfl); (focus (intro w hSw; (try dsimp only at hSw); go_simp; (try with_reducible rfl); done)); (try simp only [Act.put, List.setIfInBounds_toArray, List.set_cons_zero, List.set_cons_succ]))
          (refine wpAnyH_take (i := 3) (oi := ?_) (v := ?_) ?_ (by kernel_rfl) (by decide +kernel) (by decide +kernel) ?_ (Or.inl ⟨?_, ?_⟩) (by first | assumption | exact trivial) ?_; rotate_left 2; (focus (simp only [List.getElem?_toArray, List.getElem?_cons_zero, List.getElem?_cons_succ] <;> rfl)); (focus (exact fun _ _ _ h => h)); (focus rfl); (focus (intro w hSw; (try dsimp only at hSw); go_simp; (try with_reducible rfl); done)); (try simp only [Act.put, List.setIfInBounds_toArray, List.set_cons_zero, List.set_cons_succ]))
          (refine wpAnyH_take (i := 5) (oi := ?_) (v := ?_) ?_ (by kernel_rfl) (by decide +kernel) (by decide +kernel) ?_ (Or.inl ⟨?_, ?_⟩) (by first | assumption | exact trivial) ?_; rotate_left 2; (focus (simp only [List.getElem?_toArray, List.getElem?_cons_zero, List.getElem?_cons_succ] <;> rfl)); (focus (exact fun _ _ _ h => h)); (focus rfl); (focus (intro w hSw; (try dsimp only at hSw); go_simp; (try with_reducible rfl); done)); (try simp only [Act.put, List.setIfInBounds_toArray, List.set_cons_zero, List.set_cons_succ]))
          (refine wpAnyH_take (i := 6) (oi := ?_) (v := ?_) ?_ (by kernel_rfl) (by decide +kernel) (by decide +kernel) ?_ (Or.inl ⟨?_, ?_⟩) (by first | assumption | exact trivial) ?_; rotate_left 2; (focus (simp only [List.getElem?_toArray, List.getElem?_cons_zero, List.getElem?_cons_succ] <;> rfl)); (focus (exact fun _ _ _ h => h)); (focus rfl); (focus (intro w hSw; (try dsimp only at hSw); go_simp; (try with_reducible rfl); done)); (try simp only [Act.put, List.setIfInBounds_toArray, List.set_cons_zero, List.set_cons_succ]))
          (refine wpAnyH_take (i := 7) (oi := ?_) (v := ?_) ?_ (by kernel_rfl) (by decide +kernel) (by decide +kernel) ?_ (Or.inl ⟨?_, ?_⟩) (by first | assumption | exact trivial) ?_; rotate_left 2; (focus (simp only [List.getElem?_toArray, List.getElem?_cons_zero, List.getElem?_cons_succ] <;> rfl)); (focus (exact fun _ _ _ h => h)); (focus rfl); (focus (intro w hSw; (try dsimp only at hSw); go_simp; (try with_reducible rfl); done)); (try simp only [Act.put, List.setIfInBounds_toArray, List.set_cons_zero, List.set_cons_succ]))
          refine wpAnyH_ready (rs := [4]) (by kernel_rfl) (by simp) ?_
          refine AllReadyH.cons (o := ?_) ?_ ?_ AllReadyH.nil
          rotate_left 1
          (focus (simp only [List.getElem?_toArray, List.getElem?_cons_zero, List.getElem?_cons_succ] <;> rfl))
          intro K hK
          go_simp
          go_at_call 31
          refine (HA.out).mono ?_
          rintro e w6 ⟨rfl, ho6, hb6⟩
          have HT6 : Hid (Only (fun k => S k ∨ P = some k) wa w6) := (Only.refl (fun k => S k ∨ P = some k) wa).drew.trans (ho6.mono (fun _ _ x => Or.inr x))
          have HB6 := Lib.hid (hb6.freeX i HRR.out)
          clear ho6 hb6 HA
          dsimp only
          refine hK.out _ _ ?_ (fun hHeld => ?_)
          · exact HSX.out _ HT6.out
          clear hK K
          (try simp only [Act.put, List.setIfInBounds_toArray, List.set_cons_zero, List.set_cons_succ])
          refine wpAnyH_ready (rs := [8]) (by kernel_rfl) (by simp) ?_
          refine AllReadyH.cons (o := ?_) ?_ ?_ AllReadyH.nil
          rotate_left 1
          (focus (simp only [List.getElem?_toArray, List.getElem?_cons_zero, List.getElem?_cons_succ] <;> rfl))
          intro K hK
          go_simp
          go_at_call 90
          refine (HB6.out).mono ?_
          rintro e w7 ⟨rfl, ho7, hb7⟩
          have HT7 : Hid (Only (fun k => S k ∨ P = some k) wa w7) := HT6.out.trans (ho7.mono (fun _ _ x => Or.inl x))
          have HB7 := Lib.hid hb7
          clear ho7 hb7 HB6
          dsimp only
          refine hK.out _ _ ?_ (fun hHeld => ?_)
          · exact HSX.out _ HT7.out
          clear hK K
          (try simp only [Act.put, List.setIfInBounds_toArray, List.set_cons_zero, List.set_cons_succ])
          (refine wpAnyH_take (i := 9) (oi := ?_) (v := ?_) ?_ (by kernel_rfl) (by decide +kernel) (by decide +kernel) ?_ (Or.inl ⟨?_, ?_⟩) (by first | assumption | exact trivial) ?_; rotate_left 2; (focus (simp only [List.getElem?_toArray, List.getElem?_cons_zero, List.getElem?_cons_succ] <;> rfl)); (focus (exact fun _ _ _ h => h)); (focus rfl); (focus (intro w hSw; (try dsimp only at hSw); go_simp; (try with_reducible rfl); done)); (try simp only [Act.put, List.setIfInBounds_toArray, List.set_cons_zero, List.set_cons_succ]))
          refine wpAnyH_ready (rs := [10]) (by kernel_rfl) (by simp) ?_
          refine AllReadyH.cons (o := ?_) ?_ ?_ AllReadyH.nil
          rotate_left 1
          (focus (simp only [List.getElem?_toArray, List.getElem?_cons_zero, List.getElem?_cons_succ] <;> rfl))
          intro K hK
          go_simp
          refine hK.out _ _ ?_ (fun hHeld => ?_)
          · exact HSX.out _ HT7.out
          clear hK K
          (try simp only [Act.put, List.setIfInBounds_toArray, List.set_cons_zero, List.set_cons_succ])
          refine wpAnyH_ready (rs := [11]) (by kernel_rfl) (by simp) ?_
          refine AllReadyH.cons (o := ?_) ?_ ?_ AllReadyH.nil
          rotate_left 1
          (focus (simp only [List.getElem?_toArray, List.getElem?_cons_zero, List.getElem?_cons_succ] <;> rfl))
          intro K hK
          go_simp
          refine hK.out _ _ ?_ (fun hHeld => ?_)
          · exact HSX.out _ HT7.out
          clear hK K
          (try simp only [Act.put, List.setIfInBounds_toArray, List.set_cons_zero, List.set_cons_succ])
          refine wpAnyH_done (by kernel_rfl) ?_ _
          clear hHeld HSX
          go_wp2
          rw [← HPOST.out]
          unfold DoPost
          exact ⟨rfl, (HQA.out.mono (T := (fun k => S k ∨ P = some k)) (fun _ _ x => x.elim)).trans HT7.out, _, rr.2, st, HB7.out, last_nFree HRR.out, fun k x => by
            rcases x.1 with y | y
            · exact Or.inl y
            · exact Or.inr (by have h1 := HQA.out.size; have h2 := HT6.out.size; omega)⟩
      · have d6 : ((r8 : Int) == 6) = false := beq_eq_false_iff_ne.2 (by omega)
        obtain ⟨o0, o1, o2, o3, o4, o5, o6, o7⟩ : wa.cell? ⟨s0, 0, none⟩ = some (.int .u8 (dn : Int)) ∧ wa.cell? ⟨s0, 1, none⟩ = some (.int .i64 i) ∧ wa.cell? ⟨s0, 2, none⟩ = some (.int .u64 (t.row : Int)) ∧ wa.cell? ⟨s0, 3, none⟩ = some (.int .u64 (t.xmin : Int)) ∧ wa.cell? ⟨s0, 4, none⟩ = some (.int .u64 (t.xmax : Int)) ∧ wa.cell? ⟨s0, 5, none⟩ = some (.int .i64 t.pg) ∧ wa.cell? ⟨s0, 6, none⟩ = some (.int .i64 t.sl) ∧ wa.cell? ⟨s0, 7, none⟩ = some (.slice A' t.data.length cap') := ⟨by rw [cell_of HDW.out.op]; rfl, by rw [cell_of HDW.out.op]; rfl, by rw [cell_of HDW.out.op]; rfl, by rw [cell_of HDW.out.op]; rfl, by rw [cell_of HDW.out.op]; rfl, by rw [cell_of HDW.out.op]; rfl, by rw [cell_of HDW.out.op]; rfl, by rw [cell_of HDW.out.op]; rfl⟩
        go_wp2_with fail
        refine (HFEW.out _ HDW.out.rdo).mono ?_
        rintro e w2 ⟨A2, n2, rfl, hf2⟩
        unfold tupV
        have hwa : s0 ≤ wa.heap.size := by have h1 := HQA.out.size; have h2 := HSW.out; omega
        have HQ2 : Hid (Quiet wa (w2.alloc (.cells #[.int .u64 (u.row : Int), .int .u64 (u.xmin : Int), .int .u64 (u.xmax : Int), .int .i64 u.pg, .int .i64 u.sl, .slice A2 u.data.length n2] 54))) := hf2.quiet.alloc _
        have HB2 : Hid ((w2.alloc (.cells #[.int .u64 (u.row : Int), .int .u64 (u.xmin : Int), .int .u64 (u.xmax : Int), .int .i64 u.pg, .int .i64 u.sl, .slice A2 u.data.length n2] 54)).heap[w2.heap.size]? = some (.cells #[.int .u64 (u.row : Int), .int .u64 (u.xmin : Int), .int .u64 (u.xmax : Int), .int .i64 u.pg, .int .i64 u.sl, .slice A2 u.data.length n2] 54 (0, 0))) := alloc_new _ _
        have HOW2 := Lib.hid (owns_kept hf2.own ((Only.refl (fun _ => False) w2).alloc (.cells #[.int .u64 (u.row : Int), .int .u64 (u.xmin : Int), .int .u64 (u.xmax : Int), .int .i64 u.pg, .int .i64 u.sl, .slice A2 u.data.length n2] 54)) (fun _ _ x => x))
        have HN2 : Hid (∀ k, (Value.slice A2 u.data.length n2).ownBlock = some k → s0 ≤ k ∧ k < (w2.alloc (.cells #[.int .u64 (u.row : Int), .int .u64 (u.xmin : Int), .int .u64 (u.xmax : Int), .int .i64 u.pg, .int .i64 u.sl, .slice A2 u.data.length n2] 54)).heap.size) := fun k e => ⟨by have h1 := hf2.new k e; omega, (HOW2.out.lt k e).2⟩
        have HX2 : Hid (s0 ≤ w2.heap.size) := by have h1 := hf2.quiet.size; show s0 ≤ w2.heap.size; omega
        clear hf2 o0 o1 o2 o3 o4 o5 o6 o7
        go_upto_region 14 with fail
        generalize w2.alloc (.cells #[.int .u64 (u.row : Int), .int .u64 (u.xmin : Int), .int .u64 (u.xmax : Int), .int .i64 u.pg, .int .i64 u.sl, .slice A2 u.data.length n2] 54) = wb at HQ2 HB2 HOW2 HN2 ⊢
        generalize w2.heap.size = x9 at HB2 HX2 ⊢
        obtain ⟨c0, c1, c2, c3, c4, c5⟩ := box_cells HB2.out
        obtain ⟨rr, hrr⟩ : ∃ rr, nInsL P.isSome L st u = rr := ⟨_, rfl⟩
        obtain ⟨p8, er, L', st'⟩ := rr
        have HRR := Lib.hid hrr
        have HIP := Lib.hid ((HBA.out.quietly HQ2.out).insP u A2 n2 _ HUB.out (own_rd HOW2.out) hrr)
        unfold tupV at HIP
        clear hrr
        go_wp2_with fail
        refine HIP.out.mono ?_
        rintro e w3 ⟨rfl, ho3, hb3⟩
        have HT3 : Hid (Only (fun k => S k ∨ P = some k) wb w3) := ho3.mono (fun _ _ x => Or.inr x)
        have HTA3 : Hid (Only (fun k => S k ∨ P = some k) wa w3) := (HQ2.out.mono (T := (fun k => S k ∨ P = some k)) (fun _ _ x => x.elim)).trans HT3.out
        have HD3 := Lib.hid (HDA.out w3 HTA3.out)
        obtain ⟨k0, k1, k2, k3, k4, k5⟩ := box_cells HD3.out.b8
        have HIX := Lib.hid (hb3.insX u A1 n1 _ HUB.out (own_rd HD3.out.own1) HRR.out)
        unfold tupV at HIX
        clear ho3 hb3 HIP c0 c1 c2 c3 c4 c5
        go_wp2_with fail
        refine HIX.out.mono ?_
        rintro e w4 ⟨rfl, ho4, hb4⟩
        have HT4 : Hid (Only (fun k => S k ∨ P = some k) wb w4) := HT3.out.trans (ho4.mono (fun _ _ x => Or.inl x))
        have HTA4 : Hid (Only (fun k => S k ∨ P = some k) wa w4) := HTA3.out.trans (ho4.mono (fun _ _ x => Or.inl x))
        have HD4 := Lib.hid (HDA.out w4 HTA4.out)
        have HBB4 := Lib.hid hb4
        have HG : Hid (∀ k, s0 ≤ k → ¬ (S k ∨ P = some k)) := fun k h x => by have h1 := HGL.out k x; have h2 := HSW.out; omega
        have HX4 := Lib.hid (HT4.out.get HB2.out (HG.out x9 HX2.out))
        have HW4 := Lib.hid (owns_kept HOW2.out HT4.out (fun k e => HG.out k (HN2.out k e).1))
        clear ho4 hb4 HIX k0 k1 k2 k3 k4 k5
        obtain ⟨k0, k1, k2, k3, k4, k5⟩ := box_cells HD4.out.b8
        obtain ⟨c0, c1, c2, c3, c4, c5⟩ := box_cells HX4.out
        have HSM := Lib.hid (rsame_any u u A2 A1 n2 n1 _ _ w4 (own_rd HW4.out) (own_rd HD4.out.own1) HUB.out HUB.out)
        rw [sameT_id] at HSM
        unfold tupV at HSM
        go_wp2_with fail
        refine HSM.out.mono ?_
        rintro e w5 ⟨rfl, hq5⟩
        have HQ5 := Lib.hid hq5
        have HBB5 := Lib.hid (HBB4.out.quietly hq5)
        have HX5 := Lib.hid (hq5.get HX4.out (fun x => x))
        have HW5 := Lib.hid (owns_kept HW4.out hq5 (fun _ _ x => x))
        obtain ⟨_, _, _, _, _, y5⟩ := box_cells HX5.out
        clear hq5 HSM k0 k1 k2 k3 k4 k5 c0 c1 c2 c3 c4 c5
        have HNB : Hid (∀ k, (Value.slice A2 u.data.length n2).ownBlock = some k → k ≠ x9) := fun k e => by
          obtain ⟨z, hz⟩ := own_blk HW5.out e
          exact ne_type hz HX5.out (by decide)
        obtain ⟨m, hm⟩ : ∃ m, u.data.length = m := ⟨_, rfl⟩
        have HOW := Lib.hid HW5.out
        have hul := HUL.out
        rw [hm] at HOW HNB hul y5 HN2
        clear hm
        go_wp2_with fail
        go_loopw [106, 17] (fun cq _ wr' => ∃ (q : Nat) (xs : List Value), q ≤ m ∧ cq = .int .i64 (q : Int) ∧ (∀ x ∈ xs, ∃ z : Int, x = .int .u8 z) ∧ wr'.ownsRow 0 5 1 (.slice A2 m n2) m xs ∧ Only (fun k => (Value.slice A2 m n2).ownBlock = some k) w5 wr') (fun cq _ _ => m - (intOf cq).toNat)
        case atStart => exact ⟨0, bytesV u.data, Nat.zero_le _, rfl, (fun x hx => by obtain ⟨z, _, rfl⟩ := List.mem_map.1 hx; exact ⟨z, rfl⟩), HOW.out, Only.refl _ _⟩
        case round =>
          obtain ⟨qq, ys, hq, rfl, hxs, hown, hon⟩ := hrel
          have HXS := Lib.hid hxs
          have HOWN := Lib.hid hown
          have HON := Lib.hid hon
          have z0 : wr.cell? ⟨x9, 5, none⟩ = some (.slice A2 m n2) := hon.cell y5 (fun e => HNB.out x9 e rfl)
          clear hxs hon
          by_cases hqk : qq < m
          · rcases owns_cases hown with ⟨_, z⟩ | ⟨g, cp, hv, _, _⟩
            · omega
            · injection hv with e1 _ e3
              subst e1 e3
              obtain ⟨x, hx⟩ : ∃ x, ys[qq]? = some x := ⟨_, List.getElem?_eq_getElem (by have := hown.1; omega)⟩
              obtain ⟨zv, rfl⟩ := HXS.out x (List.mem_of_getElem? hx)
              have r0 : wr.cell? ⟨g, qq, none⟩ = some (.int .u8 zv) := by
                have := hown.cells rfl qq _ hx
                rw [add_none, Nat.zero_add] at this
                exact this
              have rf : wr.frozen? ⟨g, qq, none⟩ = false := by
                obtain ⟨_, h2⟩ := hown
                rcases h2 with ⟨z, _⟩ | ⟨g', cap, cur, hv', _, hh, _⟩
                · cases z
                · injection hv' with e1' _ _
                  injection e1' with e1'
                  injection e1' with e1' _ _
                  subst e1'
                  exact frozen_of hh qq
              have e2 : (0 : Int) ≤ (qq : Int) := by omega
              have e3 : (qq : Int) < (m : Int) := by omega
              clear hown hx
              go_wp2_with fail
              go_roundw
              case rel => exact ⟨qq + 1, ys.set qq (.int .u8 (bits BinOp.xor IntKind.u8 zv 1)), by omega, by go_num, (fun x hx => by
                rcases List.mem_or_eq_of_mem_set hx with y | y
                · exact HXS.out x y
                · exact ⟨_, y⟩), own_putB HOWN.out hqk _, HON.out.setCell (p := ⟨g, qq, none⟩) (fun _ => rfl) _⟩
              case measure => simp [intOf]; omega
          · have HZ3 : Hid (wb.heap.size ≤ w3.heap.size) := HT3.out.size
            have HFB := Lib.hid (HBB5.out.kept HON.out (fun k x e => HG.out k (HN2.out k e).1 (Or.inr x)) (fun k x e => by
              rcases x.1 with y | y
              · exact HG.out k (HN2.out k e).1 (Or.inl y)
              · have h1 := (HN2.out k e).2; have h2 := HZ3.out; omega))
            have HFO : Hid (Only (fun k => S k ∨ P = some k) W wr) := (((HQA.out.mono (T := (fun k => S k ∨ P = some k)) (fun _ _ x => x.elim)).trans HTA4.out).trans (HQ5.out.mono (T := (fun k => S k ∨ P = some k)) (fun _ _ x => x.elim))).trans' HON.out (fun k hk e => by have h1 := (HN2.out k e).1; have h2 := HSW.out; omega)
            have HFS : Hid (W.heap.size ≤ w3.heap.size) := by have h1 := HQA.out.size; have h2 := HTA3.out.size; show W.heap.size ≤ w3.heap.size; omega
            clear hown
            go_wp2
            rw [← HPOST.out]
            unfold DoPost
            exact ⟨rfl, HFO.out, _, L', st', HFB.out, last_nIns HRR.out, fun k x => by
              rcases x.1 with y | y
              · exact Or.inl y
              · exact Or.inr (by have h1 := HFS.out; omega)⟩

end Go.Proofs.Ytbibmgcklilpmaa
