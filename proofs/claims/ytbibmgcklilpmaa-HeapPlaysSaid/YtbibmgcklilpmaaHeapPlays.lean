/- HeapPlays: every script of two heaps of one pool has the document's answers. For every input. -/
import Derived.Test.YtbibmgcklilpmaaPlayW
import Derived.Test.YtbibmgcklilpmaaOpen8
import Derived.Test.YtbibmgcklilpmaaLast
import Derived.Deep.CutBlock
namespace Go.Proofs.Ytbibmgcklilpmaa
open Go.RowKit Go.Lap

theorem few_bytes {t : Tup} (h : ∀ x ∈ t.data, x < 256) : ∀ x ∈ t.few.data, x < 256 := fun x hx => h x (List.mem_of_mem_take hx)

theorem op_cells {w : World} {b off k : Nat} {v0 v1 v2 v3 v4 v5 v6 v7 v8 v9 : Value} (h : ∀ j u, #[v0, v1, v2, v3, v4, v5, v6, v7, v8, v9][j]? = some u → w.cell? ⟨b, off + k * 10 + j, none⟩ = some u) :
    w.cell? ⟨b, off + k * 10, none⟩ = some v0 ∧ w.cell? ⟨b, off + k * 10 + 1, none⟩ = some v1 ∧ w.cell? ⟨b, off + k * 10 + 2, none⟩ = some v2 ∧ w.cell? ⟨b, off + k * 10 + 3, none⟩ = some v3 ∧ w.cell? ⟨b, off + k * 10 + 4, none⟩ = some v4 ∧ w.cell? ⟨b, off + k * 10 + 5, none⟩ = some v5 ∧ w.cell? ⟨b, off + k * 10 + 6, none⟩ = some v6 ∧ w.cell? ⟨b, off + k * 10 + 7, none⟩ = some v7 ∧ w.cell? ⟨b, off + k * 10 + 8, none⟩ = some v8 ∧ w.cell? ⟨b, off + k * 10 + 9, none⟩ = some v9 :=
  ⟨h 0 _ rfl, h 1 _ rfl, h 2 _ rfl, h 3 _ rfl, h 4 _ rfl, h 5 _ rfl, h 6 _ rfl, h 7 _ rfl, h 8 _ rfl, h 9 _ rfl⟩

/-- The two heaps that a law holds: the second may be nil. -/
def twoO (none_ : Bool) (h1 h2 : Nat) : Bool → Option Nat := fun b => if b then (if none_ then none else some h2) else some h1

def kn (b : Bool) : Nat := if b then 1 else 0

/-- The law's arrays. -/
def ArrAt (w : World) (a b : Nat) (hs xs : Bool → Option Nat) : Prop :=
  w.heap[a]? = some (.cells #[.pointer (adr (hs false)), .pointer (adr (hs true))] 75 (0, 0)) ∧ w.heap[b]? = some (.cells #[.pointer (adr (xs false)), .pointer (adr (xs true))] 98 (0, 0))

theorem ArrAt.kept {S : Nat → Prop} {w w' : World} {a b : Nat} {hs xs : Bool → Option Nat} (h : ArrAt w a b hs xs) (ho : Only S w w') (h1 : ¬ S a) (h2 : ¬ S b) : ArrAt w' a b hs xs := ⟨ho.get h.1 h1, ho.get h.2 h2⟩

theorem rheap_new {w : World} {xb qb : Nat} {S : Nat → Prop} (h : w.heap[xb]? = some (.cells #[.pointer (some ⟨qb, 0, none⟩), .slice none 0 0] 97 (0, 0))) (hS : S xb) : RHeapIs w xb qb S [] :=
  ⟨fun _ => 0, _, [], h, World.ownsRow_nil _ _ _ _, fun i T hi => by simp at hi, ⟨hS, rfl⟩, fun k e => by cases e⟩

theorem PlayW.start {w W1 W2 W3 W4 : World} {K : Nat → Prop} {pb qb h1 h2 x1 x2 n : Nat} (none_ : Bool) (q1 : Quiet w W1) (hp : PoolAt W1 pb n) (hq : RPoolAt W1 qb n) (hpb : w.heap.size ≤ pb) (hqb : w.heap.size ≤ qb) (hn : n ≤ 256) (q2 : Quiet W1 W2) (hh1 : HeapIs W2 h1 pb (fun k => W1.heap.size ≤ k) []) (q3 : Quiet W2 W3) (hh2 : HeapIs W3 h2 pb (fun k => W2.heap.size ≤ k) [])
    (q4 : Quiet W3 W4) (hx1 : W4.heap[x1]? = some (.cells #[.pointer (some ⟨qb, 0, none⟩), .slice none 0 0] 97 (0, 0))) (hx2 : W4.heap[x2]? = some (.cells #[.pointer (some ⟨qb, 0, none⟩), .slice none 0 0] 97 (0, 0))) (l1 : W3.heap.size ≤ x1) (l2 : x1 < x2) (hK : ∀ k, K k → x2 < k ∧ k < W4.heap.size) :
    PlayW w W4 K pb qb (twoO none_ h1 h2) (twoO none_ x1 x2) (fun _ => []) n (fun _ => []) n := by
  have z1 := q1.size
  have z2 := q2.size
  have z3 := q3.size
  have z4 := q4.size
  have p1 := hp.lt
  have p2 := hq.lt
  have e1 := lt_of_get hx1
  have e2 := lt_of_get hx2
  have hpq : pb ≠ qb := ne_type hp hq (by decide)
  obtain ⟨ow, o1, o2, o3, o4, o5, o6, o7⟩ : ∃ ow : Nat → Nat, ow pb = 5 ∧ ow qb = 6 ∧ (∀ k, W1.heap.size ≤ k → k < W2.heap.size → ow k = 1) ∧ (∀ k, W2.heap.size ≤ k → k < W3.heap.size → ow k = 2) ∧ ow x1 = 3 ∧ ow x2 = 4 ∧ ∀ k, ow k ≠ 0 → w.heap.size ≤ k ∧ k ≤ x2 := by
    refine ⟨fun k => if k = pb then 5 else if k = qb then 6 else if k < W1.heap.size then 0 else if k < W2.heap.size then 1 else if k < W3.heap.size then 2 else if k = x1 then 3 else if k = x2 then 4 else 0, ?_, ?_, fun k a b => ?_, fun k a b => ?_, ?_, ?_, fun k x => ?_⟩
    · simp
    · show (if qb = pb then 5 else if qb = qb then 6 else _) = 6
      rw [if_neg (fun e => hpq e.symm), if_pos rfl]
    · show (if k = pb then 5 else if k = qb then 6 else if k < W1.heap.size then 0 else if k < W2.heap.size then 1 else _) = 1
      rw [if_neg (by omega), if_neg (by omega), if_neg (by omega), if_pos b]
    · show (if k = pb then 5 else if k = qb then 6 else if k < W1.heap.size then 0 else if k < W2.heap.size then 1 else if k < W3.heap.size then 2 else _) = 2
      rw [if_neg (by omega), if_neg (by omega), if_neg (by omega), if_neg (by omega), if_pos b]
    · show (if x1 = pb then 5 else if x1 = qb then 6 else if x1 < W1.heap.size then 0 else if x1 < W2.heap.size then 1 else if x1 < W3.heap.size then 2 else if x1 = x1 then 3 else _) = 3
      rw [if_neg (by omega), if_neg (by omega), if_neg (by omega), if_neg (by omega), if_neg (by omega), if_pos rfl]
    · show (if x2 = pb then 5 else if x2 = qb then 6 else if x2 < W1.heap.size then 0 else if x2 < W2.heap.size then 1 else if x2 < W3.heap.size then 2 else if x2 = x1 then 3 else if x2 = x2 then 4 else 0) = 4
      rw [if_neg (by omega), if_neg (by omega), if_neg (by omega), if_neg (by omega), if_neg (by omega), if_neg (by omega), if_pos rfl]
    · revert x
      show (if k = pb then 5 else if k = qb then 6 else if k < W1.heap.size then 0 else if k < W2.heap.size then 1 else if k < W3.heap.size then 2 else if k = x1 then 3 else if k = x2 then 4 else 0) ≠ 0 → _
      intro x
      split at x
      · omega
      · split at x
        · omega
        · split at x
          · exact absurd rfl x
          · split at x
            · omega
            · split at x
              · omega
              · split at x
                · omega
                · split at x
                  · omega
                  · exact absurd rfl x
  have q34 := q3.trans q4
  have qa := (q2.trans q34)
  refine ⟨q1.trans qa, ⟨ow, fun b => ?_, o1, o2, fun k x => ?_⟩, hp.kept qa (fun x => x), hq.kept qa (fun x => x), by simpa using hn, by simpa using hn, fun k x => (hK k x).2, fun b T hT => (by cases hT), fun b T hT => (by cases hT)⟩
  · cases b
    · refine Or.inr ⟨h1, x1, rfl, rfl, (hh1.lim.kept q34 (fun _ _ x => x)).mono (fun k x => o3 k x.1 x.2), rheap_new hx1 o5⟩
    · cases none_
      · refine Or.inr ⟨h2, x2, rfl, rfl, (hh2.lim.kept q4 (fun _ _ x => x)).mono (fun k x => o4 k x.1 x.2), rheap_new hx2 o6⟩
      · exact Or.inl ⟨rfl, rfl, rfl, rfl⟩
  · obtain ⟨a, b⟩ := o7 k x
    exact ⟨a, by omega, fun y => by have := hK k y; omega⟩

/-- The law writes into its own blocks. -/
theorem PlayW.mine {w W W' : World} {K S : Nat → Prop} {pb qb : Nat} {hs xs : Bool → Option Nat} {Hs Xs : HS} {left rl : Nat} (h : PlayW w W K pb qb hs xs Hs left Xs rl) (ho : Only S W W') (hS : ∀ k, S k → K k ∧ w.heap.size ≤ k) : PlayW w W' K pb qb hs xs Hs left Xs rl := by
  obtain ⟨ow, h1, h2, h3, h4⟩ := h.ex
  have hz := ho.size
  have hqs := h.quiet.size
  have nS : ∀ k, ow k ≠ 0 → ¬ S k := fun k x y => (h4 k x).2.2 (hS k y).1
  have tne : ∀ b, tf b ≠ 0 := fun b => by cases b <;> decide
  have rne : ∀ b, tr b ≠ 0 := fun b => by cases b <;> decide
  exact ⟨h.quiet.trans' ho (fun k hk x => by have := (hS k x).2; omega), ⟨ow, fun b => (h1 b).kept ho (fun k x => nS k (by rw [x]; exact tne b)) (fun k x => nS k (by rw [x]; exact rne b)), h2, h3, fun k x => by obtain ⟨p, q, r⟩ := h4 k x; exact ⟨p, by omega, r⟩⟩,
    h.pool.kept ho (nS pb (by rw [h2]; decide)), h.rpool.kept ho (nS qb (by rw [h3]; decide)), h.sum, h.rsum, fun k x => by have := h.kl k x; omega, h.fit, h.rfit⟩

/-- A version's data, laid anew. -/
structure FewIs (sb : Nat) (W : World) (A : Option Addr) (c : Nat) (t : Tup) : Prop where
  own : W.ownsRow 0 5 1 (.slice A t.data.length c) t.data.length (bytesV t.data)
  new : ∀ k, (Value.slice A t.data.length c).ownBlock = some k → sb ≤ k

theorem FewIs.mk' {wb v N : World} {A : Option Addr} {c : Nat} {t : Tup} (h : wb.heap.size ≤ v.heap.size) (hf : Fresh v N (.slice A t.data.length c) t.data) : FewIs wb.heap.size N A c t := ⟨hf.own, fun k e => by have := hf.new k e; omega⟩
theorem FewIs.kept {sb : Nat} {W W' : World} {A : Option Addr} {c : Nat} {t : Tup} (h : FewIs sb W A c t) (hq : Quiet W W') : FewIs sb W' A c t := ⟨owns_kept h.own hq (fun _ _ x => x), h.new⟩
theorem FewIs.kept2 {sb x : Nat} {W W' : World} {A : Option Addr} {c : Nat} {t : Tup} {cs : Array Value} (h : FewIs sb W A c t) (ho : Only (· = x) W W') (hb : W.heap[x]? = some (.cells cs 54 (0, 0))) : FewIs sb W' A c t :=
  ⟨owns_kept h.own ho (fun k e y => by obtain ⟨z, hz⟩ := own_blk h.own e; exact ne_type hz hb (by decide) y), h.new⟩
theorem FewIs.rd {sb : Nat} {W : World} {A : Option Addr} {c : Nat} {t : Tup} (h : FewIs sb W A c t) : Rd W (fun k => (Value.slice A t.data.length c).ownBlock = some k) 1 A t.data.length (bytesV t.data) := by
  obtain ⟨A5, c5, e5, _, _, hrd⟩ := own_form h.own
  injection e5 with e5 _ _
  subst e5
  exact hrd

/-- Two versions in their boxes, each with data of its own. -/
structure TwoFew (wb wx : World) (x y : Nat) (A : Option Addr) (c : Nat) (A' : Option Addr) (c' : Nat) (t : Tup) : Prop where
  only : Only (fun k => wb.heap.size ≤ k) wb wx
  box1 : wx.heap[x]? = some (.cells #[.int .u64 t.row, .int .u64 t.xmin, .int .u64 t.xmax, .int .i64 t.pg, .int .i64 t.sl, .slice A t.data.length c] 54 (0, 0))
  box2 : wx.heap[y]? = some (.cells #[.int .u64 t.row, .int .u64 t.xmin, .int .u64 t.xmax, .int .i64 t.pg, .int .i64 t.sl, .slice A' t.data.length c'] 54 (0, 0))
  new1 : wb.heap.size ≤ x
  new2 : wb.heap.size ≤ y
  few1 : FewIs wb.heap.size wx A c t
  few2 : FewIs wb.heap.size wx A' c' t

theorem owns_put {w : World} {e : TypeId} {g n c q : Nat} {xs : List Value} (h : w.ownsRow 0 e 1 (.slice (some ⟨g, 0, none⟩) n c) n xs) (hq : q < n) (u : Value) : (w.setCell ⟨g, q, none⟩ u).ownsRow 0 e 1 (.slice (some ⟨g, 0, none⟩) n c) n (xs.set q u) := by
  obtain ⟨h1, h2⟩ := h
  rcases h2 with ⟨z, _⟩ | ⟨g', cap, cur, hv, hg, hh, r1, r2, r3, r4⟩
  · cases z
  · injection hv with e1 _ e3
    injection e1 with e1
    injection e1 with e1 _ _
    subst e1 e3
    refine ⟨by simpa using h1, Or.inr ⟨g, c, cur.setIfInBounds q u, rfl, hg, set_same hh q u, r1, r2, by simpa using r3, ?_⟩⟩
    rw [Array.toList_setIfInBounds, Nat.mul_one, List.take_set]
    rw [Nat.mul_one] at r4
    rw [r4]

/-- What a round has of its own, in a later world. -/
structure RoundAt (W : World) (a1 a2 : Nat) (hs xs : Bool → Option Nat) (q : Nat) (two : Bool) (s0 dn : Nat) (pg sl : Int) (t : Tup) (A' : Option Addr) (cap' x6 x7 : Nat) (A1 : Option Addr) (n1 : Nat) (A2 : Option Addr) (n2 : Nat) (u : Tup) : Prop where
  arr : ArrAt W a1 a2 hs xs
  hp : W.cell? ⟨a1, q, none⟩ = some (.pointer (adr (hs two)))
  xp : W.cell? ⟨a2, q, none⟩ = some (.pointer (adr (xs two)))
  op : W.heap[s0]? = some (.cells #[.int .u8 (dn : Int), .bool two, .int .i64 pg, .int .i64 sl, .int .u64 (t.row : Int), .int .u64 (t.xmin : Int), .int .u64 (t.xmax : Int), .int .i64 t.pg, .int .i64 t.sl, .slice A' t.data.length cap'] 77 (0, 0))
  b6 : W.heap[x6]? = some (.cells #[.int .u64 u.row, .int .u64 u.xmin, .int .u64 u.xmax, .int .i64 u.pg, .int .i64 u.sl, .slice A1 u.data.length n1] 54 (0, 0))
  b7 : W.heap[x7]? = some (.cells #[.int .u64 u.row, .int .u64 u.xmin, .int .u64 u.xmax, .int .i64 u.pg, .int .i64 u.sl, .slice A2 u.data.length n2] 54 (0, 0))
  rd1 : Rd W (fun k => (Value.slice A1 u.data.length n1).ownBlock = some k) 1 A1 u.data.length (bytesV u.data)
  own2 : W.ownsRow 0 5 1 (.slice A2 u.data.length n2) u.data.length (bytesV u.data)
  rd2 : Rd W (fun k => (Value.slice A2 u.data.length n2).ownBlock = some k) 1 A2 u.data.length (bytesV u.data)

theorem wrap8' (r : Nat) (h : r < 256) : IntKind.u8.wrap (r : Int) = (r : Int) := by
  rw [IntKind.wrap_u8]
  omega

/-- Both calls and both boxes are done, nothing is stored yet. -/
structure Leaf20 (wb v : World) (A1 : Option Addr) (n1 : Nat) (A2 : Option Addr) (n2 x6 x7 : Nat) (t : Tup) : Prop where
  only : Only (fun k => wb.heap.size ≤ k) wb v
  b6 : v.heap[x6]? = some (.cells #[.int .u64 0, .int .u64 0, .int .u64 0, .int .i64 0, .int .i64 0, .slice none 0 0] 54 (0, 0))
  b7 : v.heap[x7]? = some (.cells #[.int .u64 0, .int .u64 0, .int .u64 0, .int .i64 0, .int .i64 0, .slice none 0 0] 54 (0, 0))
  l6 : wb.heap.size ≤ x6
  l7 : wb.heap.size ≤ x7
  ne : x6 ≠ x7
  f1 : FewIs wb.heap.size v A1 n1 t
  f2 : FewIs wb.heap.size v A2 n2 t

/-- One proof for all the orders that lead to one place: what is left there (G) is found at the first of them. -/
theorem have_key {goal : Prop} {wb : World} {t : Tup} {G : Option Addr → Nat → Option Addr → Nat → Nat → Nat → World → Prop}
    (main : (∀ A1 n1 A2 n2 x6 x7 v, Leaf20 wb v A1 n1 A2 n2 x6 x7 t → G A1 n1 A2 n2 x6 x7 v) → goal) (key : ∀ A1 n1 A2 n2 x6 x7 v, Leaf20 wb v A1 n1 A2 n2 x6 x7 t → G A1 n1 A2 n2 x6 x7 v) : goal := main key

set_option maxHeartbeats 1000000 in
set_option maxRecDepth 100000 in
theorem heapPlays_bad (p : Int) (no : Bool) (v : Value) (w : World) (hp : p < 0 ∨ 256 < p) :
    Calls Try.prog 13 #[.int .i64 p, .bool no, v] w fun e w' => e = .returned (.bool true) ∧ Below w.heap.size w w' := by
  go_enter Try.func13, Try.ntmps13
  go_wp2_with fail
  refine (awake7 _).mono ?_
  rintro e w1 ⟨rfl, hq1⟩
  have HQ1 := Lib.hid hq1
  clear hq1
  go_wp2_with fail
  refine (pool_new_bad p hp _).mono ?_
  rintro e w2 ⟨rfl, rfl⟩
  by_cases h0 : p < 0
  · go_wp2_with fail
    refine (pool_left_nil _).mono ?_
    rintro e w2 ⟨rfl, rfl⟩
    go_wp2
    go_ret
    exact ⟨rfl, onward (Below.refl _ _) (Nat.le_refl _) HQ1.out (fun _ x => x.elim)⟩
  · have h1 : 256 < p := by omega
    go_wp2_with fail
    refine (pool_left_nil _).mono ?_
    rintro e w2 ⟨rfl, rfl⟩
    go_wp2
    go_ret
    exact ⟨rfl, onward (Below.refl _ _) (Nat.le_refl _) HQ1.out (fun _ x => x.elim)⟩

set_option maxHeartbeats 40000000 in
set_option maxRecDepth 100000 in
theorem heapPlays_ok (k : Nat) (no : Bool) (A : Option Addr) (n cap : Nat) (w : World) (hk : k ≤ 256) (h : OpsIn8 w w.heap.size A n) (hn : n ≤ cap) (hcap : cap ≤ maxLen) :
    Calls Try.prog 13 #[.int .i64 (k : Int), .bool no, .slice A n cap] w fun e w' => e = .returned (.bool true) ∧ Below w.heap.size w w' := by
  unfold maxLen at hcap
  have HI := Lib.hid h
  clear h
  have d0 : decide ((k : Int) < 0) = false := by simp
  have d1 : decide ((256 : Int) < k) = false := decide_eq_false (by omega)
  go_enter Try.func13, Try.ntmps13
  go_wp2_with fail
  refine (awake7 _).mono ?_
  rintro e w1 ⟨rfl, hq1⟩
  have HQ1 := Lib.hid hq1
  clear hq1
  go_wp2_with fail
  refine (pool_new k hk _).mono ?_
  rintro e w2 ⟨rfl, hq2, hp2⟩
  have HQ2 := Lib.hid (HQ1.out.trans hq2)
  have HP2 := Lib.hid hp2
  have hpb : w.heap.size ≤ w1.heap.size := HQ1.out.size
  clear hq2 hp2 HQ1
  generalize w1.heap.size = pb at HP2 hpb ⊢
  go_wp2_with fail
  have HQ3 : Hid (Quiet w (w2.alloc (.cells #[.int .i64 (k : Int)] 93))) := HQ2.out.alloc _
  have HP3 : Hid (PoolAt (w2.alloc (.cells #[.int .i64 (k : Int)] 93)) pb k) := HP2.out.kept ((Only.refl (fun _ => False) w2).alloc _) (fun x => x)
  have HR3 : Hid (RPoolAt (w2.alloc (.cells #[.int .i64 (k : Int)] 93)) w2.heap.size k) := alloc_new _ _
  have hqb : w.heap.size ≤ w2.heap.size := HQ2.out.size
  generalize w2.alloc (.cells #[.int .i64 (k : Int)] 93) = w3 at HQ3 HP3 HR3 ⊢
  generalize w2.heap.size = qb at HR3 hqb ⊢
  clear HQ2 HP2
  refine (heap_new _ _).mono ?_
  rintro e w4 ⟨h1, rfl, hq4, hh4⟩
  have HQ4 := Lib.hid hq4
  have HH4 := Lib.hid hh4
  clear hq4 hh4
  go_wp2_with fail
  refine (heap_new _ _).mono ?_
  rintro e w5 ⟨h2, rfl, hq5, hh5⟩
  have HQ5 := Lib.hid hq5
  have HH5 := Lib.hid hh5
  clear hq5 hh5
  go_upto_if 64 with fail
  have hqa : Quiet w5 ((((w5.alloc (.cells #[.pointer (some ⟨qb, 0, none⟩), .slice none 0 0] 97)).alloc (.cells #[.pointer (some ⟨qb, 0, none⟩), .slice none 0 0] 97)).alloc (.cells #[.pointer (some ⟨h1, 0, none⟩), .pointer (some ⟨h2, 0, none⟩)] 75)).alloc (.cells #[.pointer (some ⟨w5.heap.size, 0, none⟩), .pointer (some ⟨w5.heap.size + 1, 0, none⟩)] 98)) := ((((Only.refl _ _).alloc _).alloc _).alloc _).alloc _
  have hx1 : ((((w5.alloc (.cells #[.pointer (some ⟨qb, 0, none⟩), .slice none 0 0] 97)).alloc (.cells #[.pointer (some ⟨qb, 0, none⟩), .slice none 0 0] 97)).alloc (.cells #[.pointer (some ⟨h1, 0, none⟩), .pointer (some ⟨h2, 0, none⟩)] 75)).alloc (.cells #[.pointer (some ⟨w5.heap.size, 0, none⟩), .pointer (some ⟨w5.heap.size + 1, 0, none⟩)] 98)).heap[w5.heap.size]? = some (.cells #[.pointer (some ⟨qb, 0, none⟩), .slice none 0 0] 97 (0, 0)) := alloc_old (alloc_old (alloc_old (alloc_new _ _) _) _) _
  have hx2 : ((((w5.alloc (.cells #[.pointer (some ⟨qb, 0, none⟩), .slice none 0 0] 97)).alloc (.cells #[.pointer (some ⟨qb, 0, none⟩), .slice none 0 0] 97)).alloc (.cells #[.pointer (some ⟨h1, 0, none⟩), .pointer (some ⟨h2, 0, none⟩)] 75)).alloc (.cells #[.pointer (some ⟨w5.heap.size, 0, none⟩), .pointer (some ⟨w5.heap.size + 1, 0, none⟩)] 98)).heap[w5.heap.size + 1]? = some (.cells #[.pointer (some ⟨qb, 0, none⟩), .slice none 0 0] 97 (0, 0)) := alloc_old (alloc_old (two_new _ _ _) _) _
  have ha1 : ((((w5.alloc (.cells #[.pointer (some ⟨qb, 0, none⟩), .slice none 0 0] 97)).alloc (.cells #[.pointer (some ⟨qb, 0, none⟩), .slice none 0 0] 97)).alloc (.cells #[.pointer (some ⟨h1, 0, none⟩), .pointer (some ⟨h2, 0, none⟩)] 75)).alloc (.cells #[.pointer (some ⟨w5.heap.size, 0, none⟩), .pointer (some ⟨w5.heap.size + 1, 0, none⟩)] 98)).heap[w5.heap.size + 1 + 1]? = some (.cells #[.pointer (some ⟨h1, 0, none⟩), .pointer (some ⟨h2, 0, none⟩)] 75 (0, 0)) := alloc_old (by have := two_new (w5.alloc (.cells #[.pointer (some ⟨qb, 0, none⟩), .slice none 0 0] 97)) (.cells #[.pointer (some ⟨qb, 0, none⟩), .slice none 0 0] 97) (.cells #[.pointer (some ⟨h1, 0, none⟩), .pointer (some ⟨h2, 0, none⟩)] 75); rw [World.size_alloc] at this; exact this) _
  have ha2 : ((((w5.alloc (.cells #[.pointer (some ⟨qb, 0, none⟩), .slice none 0 0] 97)).alloc (.cells #[.pointer (some ⟨qb, 0, none⟩), .slice none 0 0] 97)).alloc (.cells #[.pointer (some ⟨h1, 0, none⟩), .pointer (some ⟨h2, 0, none⟩)] 75)).alloc (.cells #[.pointer (some ⟨w5.heap.size, 0, none⟩), .pointer (some ⟨w5.heap.size + 1, 0, none⟩)] 98)).heap[w5.heap.size + 1 + 1 + 1]? = some (.cells #[.pointer (some ⟨w5.heap.size, 0, none⟩), .pointer (some ⟨w5.heap.size + 1, 0, none⟩)] 98 (0, 0)) := by have := two_new ((w5.alloc (.cells #[.pointer (some ⟨qb, 0, none⟩), .slice none 0 0] 97)).alloc (.cells #[.pointer (some ⟨qb, 0, none⟩), .slice none 0 0] 97)) (.cells #[.pointer (some ⟨h1, 0, none⟩), .pointer (some ⟨h2, 0, none⟩)] 75) (.cells #[.pointer (some ⟨w5.heap.size, 0, none⟩), .pointer (some ⟨w5.heap.size + 1, 0, none⟩)] 98); rw [World.size_alloc, World.size_alloc] at this; exact this
  have HS0 := Lib.hid (PlayW.start (K := fun j => j = w5.heap.size + 1 + 1 ∨ j = w5.heap.size + 1 + 1 + 1) no HQ3.out HP3.out HR3.out hpb hqb hk HQ4.out HH4.out HQ5.out HH5.out hqa hx1 hx2 (Nat.le_refl _) (Nat.lt_succ_self _) (fun j x => by have h1 := lt_of_get ha1; have h2 := lt_of_get ha2; omega))
  have hw5 : w.heap.size ≤ w5.heap.size := by have h1 := HQ3.out.size; have h2 := HQ4.out.size; have h3 := HQ5.out.size; omega
  clear hqa hx1 hx2 HQ3 HP3 HR3 HQ4 HH4 HQ5 HH5
  generalize ((((w5.alloc (.cells #[.pointer (some ⟨qb, 0, none⟩), .slice none 0 0] 97)).alloc (.cells #[.pointer (some ⟨qb, 0, none⟩), .slice none 0 0] 97)).alloc (.cells #[.pointer (some ⟨h1, 0, none⟩), .pointer (some ⟨h2, 0, none⟩)] 75)).alloc (.cells #[.pointer (some ⟨w5.heap.size, 0, none⟩), .pointer (some ⟨w5.heap.size + 1, 0, none⟩)] 98)) = wa at HS0 ha1 ha2 ⊢
  generalize hx1 : w5.heap.size = x1 at HS0 ha1 ha2 hw5 ⊢
  clear hx1
  obtain ⟨a1, hea1⟩ : ∃ a1, x1 + 1 + 1 = a1 := ⟨_, rfl⟩
  obtain ⟨a2, hea2⟩ : ∃ a2, a1 + 1 = a2 := ⟨_, rfl⟩
  rw [hea1, hea2] at HS0
  rw [hea1] at ha1
  rw [hea1, hea2] at ha2
  rw [hea1, hea2]
  have hne : a1 ≠ a2 := by omega
  have HLA : Hid (w.heap.size ≤ a1 ∧ w.heap.size ≤ a2) := by show w.heap.size ≤ a1 ∧ w.heap.size ≤ a2; omega
  clear hea1 hea2
  go_cut [] (fun wx => ∃ hs xs, PlayW w wx (fun j => j = a1 ∨ j = a2) pb qb hs xs (fun _ => []) k (fun _ => []) k ∧ ArrAt wx a1 a2 hs xs)
  case first =>
    rcases no with _ | _
    · go_wp2_with fail
      go_meet
      exact ⟨_, _, HS0.out, ha1, ha2⟩
    · have c1 : wa.cell? ⟨a1, 1, none⟩ = some (.pointer (some ⟨h2, 0, none⟩)) := by rw [cell_of ha1]; rfl
      have c2 : wa.cell? ⟨a2, 1, none⟩ = some (.pointer (some ⟨x1 + 1, 0, none⟩)) := by rw [cell_of ha2]; rfl
      have f1 := fun o => frozen_of ha1 o
      have f2 := fun o => frozen_of ha2 o
      have hne' : ¬ a2 = a1 := fun e => hne e.symm
      have o1 : Only (fun j => j = a1 ∨ j = a2) wa ((wa.setCell ⟨a1, 1, none⟩ (.pointer none)).setCell ⟨a2, 1, none⟩ (.pointer none)) := ((Only.refl _ wa).setCell (p := ⟨a1, 1, none⟩) (fun _ => Or.inl rfl) _).setCell (p := ⟨a2, 1, none⟩) (fun _ => Or.inr rfl) _
      have HS1 := Lib.hid (HS0.out.mine o1 (fun j x => ⟨x, by have := HLA.out; omega⟩))
      have HA1 : Hid (ArrAt ((wa.setCell ⟨a1, 1, none⟩ (.pointer none)).setCell ⟨a2, 1, none⟩ (.pointer none)) a1 a2 (twoO true h1 h2) (twoO true x1 (x1 + 1))) := ⟨set_other (set_same ha1 _ _) _ _ hne, by rw [set_same (set_other ha2 _ _ hne')]; rfl⟩
      clear o1 ha1 ha2
      go_wp2_with fail
      go_meet
      exact ⟨_, _, HS1.out, HA1.out⟩
  case rest =>
    obtain ⟨hs, xs, hS, hA⟩ := hcut
    have HS1 := Lib.hid hS
    have HA1 := Lib.hid hA
    clear hS hA HS0 ha1 ha2
    go_wp2_with fail
    go_loopw [69, 12, 13, 14, 15, 16, 17, 18, 19, 20, 21, 22] (fun c _ _ _ _ _ _ _ _ _ _ _ wr => ∃ (i : Nat) (Hs : HS) (left : Nat), i ≤ n ∧ i ≤ 40 ∧ c = .int .i64 (i : Int) ∧ PlayW w wr (fun j => j = a1 ∨ j = a2) pb qb hs xs Hs left Hs left ∧ ArrAt wr a1 a2 hs xs) (fun c _ _ _ _ _ _ _ _ _ _ _ _ => n - (intOf c).toNat)
    case atStart => exact ⟨0, _, _, Nat.zero_le _, Nat.zero_le _, rfl, HS1.out, HA1.out⟩
    case round =>
      obtain ⟨i, Hs, left, hi, hi2, rfl, hS, hA⟩ := hrel
      have HPW := Lib.hid hS
      have HAR := Lib.hid hA
      have HQ := Lib.hid hS.quiet
      clear hS hA HS1 HA1
      by_cases hlt : i < n
      · obtain ⟨b, off, dn, two, pg, sl, t, A', cap', rfl, hop⟩ := HI.out.kept (onward (Below.refl _ _) (Nat.le_refl _) HQ.out (fun _ x => x.elim)) i hlt
        obtain ⟨c0, c1, c2, c3, c4, c5, c6, c7, c8, c9⟩ := op_cells hop.cells
        have HOP := Lib.hid hop
        have e0 : (0 : Int) ≤ (i : Int) := by omega
        have e1 : (i : Int) < (n : Int) := by omega
        clear hop
        by_cases h40 : i < 40
        · go_upto_region 16 with fail
          have HQA : Hid (Quiet wr (wr.alloc (.cells #[.int .u8 (dn : Int), .bool two, .int .i64 pg, .int .i64 sl, .int .u64 (t.row : Int), .int .u64 (t.xmin : Int), .int .u64 (t.xmax : Int), .int .i64 t.pg, .int .i64 t.sl, .slice A' t.data.length cap'] 77))) := (Only.refl _ _).alloc _
          have HOB := Lib.hid (alloc_new wr (.cells #[.int .u8 (dn : Int), .bool two, .int .i64 pg, .int .i64 sl, .int .u64 (t.row : Int), .int .u64 (t.xmin : Int), .int .u64 (t.xmax : Int), .int .i64 t.pg, .int .i64 t.sl, .slice A' t.data.length cap'] 77))
          have hs0 : w.heap.size ≤ wr.heap.size := HQ.out.size
          generalize wr.alloc (.cells #[.int .u8 (dn : Int), .bool two, .int .i64 pg, .int .i64 sl, .int .u64 (t.row : Int), .int .u64 (t.xmin : Int), .int .u64 (t.xmax : Int), .int .i64 t.pg, .int .i64 t.sl, .slice A' t.data.length cap'] 77) = wb at HQA HOB ⊢
          generalize hws : wr.heap.size = s0 at HOB hs0 ⊢
          have HWS := Lib.hid hws
          clear hws
          clear c0 c1 c2 c3 c4 c5 c6 c7 c8 c9
          have o1 : wb.cell? ⟨s0, 1, none⟩ = some (.bool two) := by rw [cell_of HOB.out]; rfl
          go_upto_if 77 with fail
          go_cut [14] (fun s14 wx => s14 = .int .i64 ((kn two : Nat) : Int) ∧ wx = wb)
          case first =>
            rcases two with _ | _
            · go_wp2_with fail
              go_meet
              exact ⟨rfl, rfl⟩
            · go_wp2_with fail
              go_meet
              exact ⟨rfl, rfl⟩
          case rest =>
            obtain ⟨rfl, rfl⟩ := hcut
            clear o1
            generalize wc = wb at HQA HOB ⊢
            have HKN : Hid (kn two < 2) := by show kn two < 2; cases two <;> decide
            have HAQ := Lib.hid ((HAR.out.kept HQA.out (fun x => x) (fun x => x)))
            have HAC : Hid (wb.cell? ⟨a1, kn two, none⟩ = some (.pointer (adr (hs two))) ∧ wb.cell? ⟨a2, kn two, none⟩ = some (.pointer (adr (xs two)))) := by
              have h1 := HAQ.out
              constructor
              · rw [cell_of h1.1]; cases two <;> rfl
              · rw [cell_of h1.2]; cases two <;> rfl
            generalize hkq : kn two = q at HKN HAC ⊢
            have HKQ := Lib.hid hkq
            clear hkq
            go_upto_region 20 with fail
            have HOP2 := Lib.hid (HOP.out.rd.kept HQA.out (fun _ _ x => x))
            have HFEW : Hid (∀ W, Only (fun k => wb.heap.size ≤ k) wb W → Calls Try.prog 33 #[.agg #[.int .u64 (t.row : Int), .int .u64 (t.xmin : Int), .int .u64 (t.xmax : Int), .int .i64 t.pg, .int .i64 t.sl, .slice A' t.data.length cap']] W (TupPost W t.few)) := fun W ho => few_any t A' cap' _ W (HOP2.out.kept ho (fun k x y => by have h1 := HQA.out.size; have h2 := HQ.out.size; omega)) HOP.out.lc HOP.out.cm
            have HS : Hid (∀ W, Only (fun k => wb.heap.size ≤ k) wb W → (fun w' => w'.cell? ⟨s0, 4, none⟩ = some (.int .u64 (t.row : Int)) ∧ w'.cell? ⟨s0, 5, none⟩ = some (.int .u64 (t.xmin : Int)) ∧ w'.cell? ⟨s0, 6, none⟩ = some (.int .u64 (t.xmax : Int)) ∧ w'.cell? ⟨s0, 7, none⟩ = some (.int .i64 t.pg) ∧ w'.cell? ⟨s0, 8, none⟩ = some (.int .i64 t.sl) ∧ w'.cell? ⟨s0, 9, none⟩ = some (.slice A' t.data.length cap')) W) := fun W ho => by
              have hx := ho.get HOB.out (fun x => by have h1 := lt_of_get HOB.out; omega)
              exact ⟨by rw [cell_of hx]; rfl, by rw [cell_of hx]; rfl, by rw [cell_of hx]; rfl, by rw [cell_of hx]; rfl, by rw [cell_of hx]; rfl, by rw [cell_of hx]; rfl⟩
            go_cut [16, 17] (fun s16 s17 wx => ∃ x6 x7 A1 n1 A2 n2, s16 = ptrV x6 ∧ s17 = ptrV x7 ∧ TwoFew wb wx x6 x7 A1 n1 A2 n2 t.few)
            case first =>
              apply have_key (wb := wb) (t := t.few)
              case main =>
                intro KEY
                have HO : Hid (Only (fun k => wb.heap.size ≤ k) wb wb.drew) := (Only.refl _ wb).drew
                refine wp_region_held_drew (S := (fun w' => w'.cell? ⟨s0, 4, none⟩ = some (.int .u64 (t.row : Int)) ∧ w'.cell? ⟨s0, 5, none⟩ = some (.int .u64 (t.xmin : Int)) ∧ w'.cell? ⟨s0, 6, none⟩ = some (.int .u64 (t.xmax : Int)) ∧ w'.cell? ⟨s0, 7, none⟩ = some (.int .i64 t.pg) ∧ w'.cell? ⟨s0, 8, none⟩ = some (.int .i64 t.sl) ∧ w'.cell? ⟨s0, 9, none⟩ = some (.slice A' t.data.length cap'))) (by kernel_rfl) (HS.out _ HO.out) (fun hHeld => ?_)
                simp only [List.size_toArray, List.length_cons, List.length_nil, Nat.reduceAdd]
                generalize wb.drew = v0 at HO hHeld ⊢
                (refine wpAnyH_take (i := 0) (oi := ?_) (v := ?_) ?_ (by kernel_rfl) (by decide +kernel) (by decide +kernel) ?_ (Or.inl ⟨?_, ?_⟩) (by first | assumption | exact trivial) ?_; rotate_left 2; (focus (simp only [List.getElem?_toArray, List.getElem?_cons_zero, List.getElem?_cons_succ] <;> rfl)); (focus (exact fun _ _ _ h => h)); (focus rfl); (focus (intro w hSw; (try dsimp only at hSw); go_simp; (try with_reducible rfl); done)); (try simp only [Act.put, List.setIfInBounds_toArray, List.set_cons_zero, List.set_cons_succ]))
                (refine wpAnyH_take (i := 1) (oi := ?_) (v := ?_) ?_ (by kernel_rfl) (by decide +kernel) (by decide +kernel) ?_ (Or.inl ⟨?_, ?_⟩) (by first | assumption | exact trivial) ?_; rotate_left 2; (focus (simp only [List.getElem?_toArray, List.getElem?_cons_zero, List.getElem?_cons_succ] <;> rfl)); (focus (exact fun _ _ _ h => h)); (focus rfl); (focus (intro w hSw; (try dsimp only at hSw); go_simp; (try with_reducible rfl); done)); (try simp only [Act.put, List.setIfInBounds_toArray, List.set_cons_zero, List.set_cons_succ]))
                (refine wpAnyH_take (i := 3) (oi := ?_) (v := ?_) ?_ (by kernel_rfl) (by decide +kernel) (by decide +kernel) ?_ (Or.inl ⟨?_, ?_⟩) (by first | assumption | exact trivial) ?_; rotate_left 2; (focus (simp only [List.getElem?_toArray, List.getElem?_cons_zero, List.getElem?_cons_succ] <;> rfl)); (focus (exact fun _ _ _ h => h)); (focus rfl); (focus (intro w hSw; (try dsimp only at hSw); go_simp; (try with_reducible rfl); done)); (try simp only [Act.put, List.setIfInBounds_toArray, List.set_cons_zero, List.set_cons_succ]))
                (refine wpAnyH_take (i := 4) (oi := ?_) (v := ?_) ?_ (by kernel_rfl) (by decide +kernel) (by decide +kernel) ?_ (Or.inl ⟨?_, ?_⟩) (by first | assumption | exact trivial) ?_; rotate_left 2; (focus (simp only [List.getElem?_toArray, List.getElem?_cons_zero, List.getElem?_cons_succ] <;> rfl)); (focus (exact fun _ _ _ h => h)); (focus rfl); (focus (intro w hSw; (try dsimp only at hSw); go_simp; (try with_reducible rfl); done)); (try simp only [Act.put, List.setIfInBounds_toArray, List.set_cons_zero, List.set_cons_succ]))
                refine wpAnyH_ready (rs := [2, 6, 7]) (by kernel_rfl) (by simp) ?_
                refine AllReadyH.cons (o := ?_) ?_ ?_ ?_
                rotate_left 1
                (focus (simp only [List.getElem?_toArray, List.getElem?_cons_zero, List.getElem?_cons_succ] <;> rfl))
                · intro K hK
                  go_simp
                  go_at_call 33
                  refine (HFEW.out _ HO.out).mono ?_
                  rintro e v1 ⟨A1, n1, rfl, hf1⟩
                  unfold tupV
                  have q0 := hf1.quiet
                  have HON := Lib.hid (HO.out.trans' q0 (fun _ _ x => x.elim))
                  dsimp only
                  refine hK.out _ _ ?_ (fun hHeld => ?_)
                  · exact HS.out _ HON.out
                  clear hK K
                  (try simp only [Act.put, List.setIfInBounds_toArray, List.set_cons_zero, List.set_cons_succ])
                  have F1 := Lib.hid (FewIs.mk' HO.out.size hf1)
                  clear HO
                  have HO := HON
                  clear HON q0 hf1
                  refine wpAnyH_ready (rs := [5, 6, 7]) (by kernel_rfl) (by simp) ?_
                  refine AllReadyH.cons (o := ?_) ?_ ?_ ?_
                  rotate_left 1
                  (focus (simp only [List.getElem?_toArray, List.getElem?_cons_zero, List.getElem?_cons_succ] <;> rfl))
                  · intro K hK
                    go_simp
                    go_at_call 33
                    refine (HFEW.out _ HO.out).mono ?_
                    rintro e v2 ⟨A2, n2, rfl, hf2⟩
                    unfold tupV
                    have q1 := hf2.quiet
                    have HON := Lib.hid (HO.out.trans' q1 (fun _ _ x => x.elim))
                    dsimp only
                    refine hK.out _ _ ?_ (fun hHeld => ?_)
                    · exact HS.out _ HON.out
                    clear hK K
                    (try simp only [Act.put, List.setIfInBounds_toArray, List.set_cons_zero, List.set_cons_succ])
                    have F2 := Lib.hid (FewIs.mk' HO.out.size hf2)
                    replace F1 := Lib.hid (F1.out.kept (q1))
                    clear HO
                    have HO := HON
                    clear HON q1 hf2
                    refine wpAnyH_ready (rs := [6, 7]) (by kernel_rfl) (by simp) ?_
                    refine AllReadyH.cons (o := ?_) ?_ ?_ ?_
                    rotate_left 1
                    (focus (simp only [List.getElem?_toArray, List.getElem?_cons_zero, List.getElem?_cons_succ] <;> rfl))
                    · intro K hK
                      go_simp
                      refine hK.out _ _ ?_ (fun hHeld => ?_)
                      · exact HS.out _ (HO.out.alloc _)
                      clear hK K
                      (try simp only [Act.put, List.setIfInBounds_toArray, List.set_cons_zero, List.set_cons_succ])
                      have q2 : Quiet v2 (v2.alloc (.cells #[.int .u64 0, .int .u64 0, .int .u64 0, .int .i64 0, .int .i64 0, .slice none 0 0] 54)) := (Only.refl _ _).alloc _
                      have B6 := Lib.hid (alloc_new v2 (.cells #[.int .u64 0, .int .u64 0, .int .u64 0, .int .i64 0, .int .i64 0, .slice none 0 0] 54))
                      have L6 : Hid (wb.heap.size ≤ v2.heap.size) := HO.out.size
                      replace F1 := Lib.hid (F1.out.kept (q2))
                      replace F2 := Lib.hid (F2.out.kept (q2))
                      replace HO := Lib.hid (HO.out.alloc (.cells #[.int .u64 0, .int .u64 0, .int .u64 0, .int .i64 0, .int .i64 0, .slice none 0 0] 54))
                      have LT : Hid (v2.heap.size < (v2.alloc (.cells #[.int .u64 0, .int .u64 0, .int .u64 0, .int .i64 0, .int .i64 0, .slice none 0 0] 54)).heap.size) := by show v2.heap.size < (v2.alloc (.cells #[.int .u64 0, .int .u64 0, .int .u64 0, .int .i64 0, .int .i64 0, .slice none 0 0] 54)).heap.size; rw [World.size_alloc]; omega
                      clear q2
                      generalize v2.alloc (.cells #[.int .u64 0, .int .u64 0, .int .u64 0, .int .i64 0, .int .i64 0, .slice none 0 0] 54) = v3 at HO F1 F2 B6 LT hHeld ⊢
                      generalize v2.heap.size = x6 at B6 L6 LT ⊢
                      refine wpAnyH_ready (rs := [7]) (by kernel_rfl) (by simp) ?_
                      refine AllReadyH.cons (o := ?_) ?_ ?_ ?_
                      rotate_left 1
                      (focus (simp only [List.getElem?_toArray, List.getElem?_cons_zero, List.getElem?_cons_succ] <;> rfl))
                      · intro K hK
                        go_simp
                        refine hK.out _ _ ?_ (fun hHeld => ?_)
                        · exact HS.out _ (HO.out.alloc _)
                        clear hK K
                        (try simp only [Act.put, List.setIfInBounds_toArray, List.set_cons_zero, List.set_cons_succ])
                        have q3 : Quiet v3 (v3.alloc (.cells #[.int .u64 0, .int .u64 0, .int .u64 0, .int .i64 0, .int .i64 0, .slice none 0 0] 54)) := (Only.refl _ _).alloc _
                        have B7 := Lib.hid (alloc_new v3 (.cells #[.int .u64 0, .int .u64 0, .int .u64 0, .int .i64 0, .int .i64 0, .slice none 0 0] 54))
                        have L7 : Hid (wb.heap.size ≤ v3.heap.size) := HO.out.size
                        replace F1 := Lib.hid (F1.out.kept (q3))
                        replace F2 := Lib.hid (F2.out.kept (q3))
                        replace B6 := Lib.hid ((q3).get B6.out (fun x => x))
                        have HNE : Hid (x6 ≠ v3.heap.size) := by have h1 := lt_of_get B6.out; clear h1; have h2 := LT.out; show x6 ≠ v3.heap.size; omega
                        replace HO := Lib.hid (HO.out.alloc (.cells #[.int .u64 0, .int .u64 0, .int .u64 0, .int .i64 0, .int .i64 0, .slice none 0 0] 54))
                        have LT : Hid (v3.heap.size < (v3.alloc (.cells #[.int .u64 0, .int .u64 0, .int .u64 0, .int .i64 0, .int .i64 0, .slice none 0 0] 54)).heap.size) := by show v3.heap.size < (v3.alloc (.cells #[.int .u64 0, .int .u64 0, .int .u64 0, .int .i64 0, .int .i64 0, .slice none 0 0] 54)).heap.size; rw [World.size_alloc]; omega
                        clear q3
                        generalize v3.alloc (.cells #[.int .u64 0, .int .u64 0, .int .u64 0, .int .i64 0, .int .i64 0, .slice none 0 0] 54) = v4 at HO F1 F2 B6 B7 LT hHeld ⊢
                        generalize v3.heap.size = x7 at B7 L7 LT HNE ⊢
                        exact KEY A1 n1 A2 n2 x6 x7 v4 ⟨HO.out, B6.out, B7.out, L6.out, L7.out, (by have h1 := HNE.out; omega), F1.out, F2.out⟩
                      exact AllReadyH.nil
                    refine AllReadyH.cons (o := ?_) ?_ ?_ ?_
                    rotate_left 1
                    (focus (simp only [List.getElem?_toArray, List.getElem?_cons_zero, List.getElem?_cons_succ] <;> rfl))
                    · intro K hK
                      go_simp
                      refine hK.out _ _ ?_ (fun hHeld => ?_)
                      · exact HS.out _ (HO.out.alloc _)
                      clear hK K
                      (try simp only [Act.put, List.setIfInBounds_toArray, List.set_cons_zero, List.set_cons_succ])
                      have q2 : Quiet v2 (v2.alloc (.cells #[.int .u64 0, .int .u64 0, .int .u64 0, .int .i64 0, .int .i64 0, .slice none 0 0] 54)) := (Only.refl _ _).alloc _
                      have B7 := Lib.hid (alloc_new v2 (.cells #[.int .u64 0, .int .u64 0, .int .u64 0, .int .i64 0, .int .i64 0, .slice none 0 0] 54))
                      have L7 : Hid (wb.heap.size ≤ v2.heap.size) := HO.out.size
                      replace F1 := Lib.hid (F1.out.kept (q2))
                      replace F2 := Lib.hid (F2.out.kept (q2))
                      replace HO := Lib.hid (HO.out.alloc (.cells #[.int .u64 0, .int .u64 0, .int .u64 0, .int .i64 0, .int .i64 0, .slice none 0 0] 54))
                      have LT : Hid (v2.heap.size < (v2.alloc (.cells #[.int .u64 0, .int .u64 0, .int .u64 0, .int .i64 0, .int .i64 0, .slice none 0 0] 54)).heap.size) := by show v2.heap.size < (v2.alloc (.cells #[.int .u64 0, .int .u64 0, .int .u64 0, .int .i64 0, .int .i64 0, .slice none 0 0] 54)).heap.size; rw [World.size_alloc]; omega
                      clear q2
                      generalize v2.alloc (.cells #[.int .u64 0, .int .u64 0, .int .u64 0, .int .i64 0, .int .i64 0, .slice none 0 0] 54) = v3 at HO F1 F2 B7 LT hHeld ⊢
                      generalize v2.heap.size = x7 at B7 L7 LT ⊢
                      refine wpAnyH_ready (rs := [6]) (by kernel_rfl) (by simp) ?_
                      refine AllReadyH.cons (o := ?_) ?_ ?_ ?_
                      rotate_left 1
                      (focus (simp only [List.getElem?_toArray, List.getElem?_cons_zero, List.getElem?_cons_succ] <;> rfl))
                      · intro K hK
                        go_simp
                        refine hK.out _ _ ?_ (fun hHeld => ?_)
                        · exact HS.out _ (HO.out.alloc _)
                        clear hK K
                        (try simp only [Act.put, List.setIfInBounds_toArray, List.set_cons_zero, List.set_cons_succ])
                        have q3 : Quiet v3 (v3.alloc (.cells #[.int .u64 0, .int .u64 0, .int .u64 0, .int .i64 0, .int .i64 0, .slice none 0 0] 54)) := (Only.refl _ _).alloc _
                        have B6 := Lib.hid (alloc_new v3 (.cells #[.int .u64 0, .int .u64 0, .int .u64 0, .int .i64 0, .int .i64 0, .slice none 0 0] 54))
                        have L6 : Hid (wb.heap.size ≤ v3.heap.size) := HO.out.size
                        replace F1 := Lib.hid (F1.out.kept (q3))
                        replace F2 := Lib.hid (F2.out.kept (q3))
                        replace B7 := Lib.hid ((q3).get B7.out (fun x => x))
                        have HNE : Hid (x7 ≠ v3.heap.size) := by have h1 := lt_of_get B7.out; clear h1; have h2 := LT.out; show x7 ≠ v3.heap.size; omega
                        replace HO := Lib.hid (HO.out.alloc (.cells #[.int .u64 0, .int .u64 0, .int .u64 0, .int .i64 0, .int .i64 0, .slice none 0 0] 54))
                        have LT : Hid (v3.heap.size < (v3.alloc (.cells #[.int .u64 0, .int .u64 0, .int .u64 0, .int .i64 0, .int .i64 0, .slice none 0 0] 54)).heap.size) := by show v3.heap.size < (v3.alloc (.cells #[.int .u64 0, .int .u64 0, .int .u64 0, .int .i64 0, .int .i64 0, .slice none 0 0] 54)).heap.size; rw [World.size_alloc]; omega
                        clear q3
                        generalize v3.alloc (.cells #[.int .u64 0, .int .u64 0, .int .u64 0, .int .i64 0, .int .i64 0, .slice none 0 0] 54) = v4 at HO F1 F2 B7 B6 LT hHeld ⊢
                        generalize v3.heap.size = x6 at B6 L6 LT HNE ⊢
                        exact KEY A1 n1 A2 n2 x6 x7 v4 ⟨HO.out, B6.out, B7.out, L6.out, L7.out, (by have h1 := HNE.out; omega), F1.out, F2.out⟩
                      exact AllReadyH.nil
                    exact AllReadyH.nil
                  refine AllReadyH.cons (o := ?_) ?_ ?_ ?_
                  rotate_left 1
                  (focus (simp only [List.getElem?_toArray, List.getElem?_cons_zero, List.getElem?_cons_succ] <;> rfl))
                  · intro K hK
                    go_simp
                    refine hK.out _ _ ?_ (fun hHeld => ?_)
                    · exact HS.out _ (HO.out.alloc _)
                    clear hK K
                    (try simp only [Act.put, List.setIfInBounds_toArray, List.set_cons_zero, List.set_cons_succ])
                    have q1 : Quiet v1 (v1.alloc (.cells #[.int .u64 0, .int .u64 0, .int .u64 0, .int .i64 0, .int .i64 0, .slice none 0 0] 54)) := (Only.refl _ _).alloc _
                    have B6 := Lib.hid (alloc_new v1 (.cells #[.int .u64 0, .int .u64 0, .int .u64 0, .int .i64 0, .int .i64 0, .slice none 0 0] 54))
                    have L6 : Hid (wb.heap.size ≤ v1.heap.size) := HO.out.size
                    replace F1 := Lib.hid (F1.out.kept (q1))
                    replace HO := Lib.hid (HO.out.alloc (.cells #[.int .u64 0, .int .u64 0, .int .u64 0, .int .i64 0, .int .i64 0, .slice none 0 0] 54))
                    have LT : Hid (v1.heap.size < (v1.alloc (.cells #[.int .u64 0, .int .u64 0, .int .u64 0, .int .i64 0, .int .i64 0, .slice none 0 0] 54)).heap.size) := by show v1.heap.size < (v1.alloc (.cells #[.int .u64 0, .int .u64 0, .int .u64 0, .int .i64 0, .int .i64 0, .slice none 0 0] 54)).heap.size; rw [World.size_alloc]; omega
                    clear q1
                    generalize v1.alloc (.cells #[.int .u64 0, .int .u64 0, .int .u64 0, .int .i64 0, .int .i64 0, .slice none 0 0] 54) = v2 at HO F1 B6 LT hHeld ⊢
                    generalize v1.heap.size = x6 at B6 L6 LT ⊢
                    refine wpAnyH_ready (rs := [5, 7]) (by kernel_rfl) (by simp) ?_
                    refine AllReadyH.cons (o := ?_) ?_ ?_ ?_
                    rotate_left 1
                    (focus (simp only [List.getElem?_toArray, List.getElem?_cons_zero, List.getElem?_cons_succ] <;> rfl))
                    · intro K hK
                      go_simp
                      go_at_call 33
                      refine (HFEW.out _ HO.out).mono ?_
                      rintro e v3 ⟨A2, n2, rfl, hf2⟩
                      unfold tupV
                      have q2 := hf2.quiet
                      have HON := Lib.hid (HO.out.trans' q2 (fun _ _ x => x.elim))
                      dsimp only
                      refine hK.out _ _ ?_ (fun hHeld => ?_)
                      · exact HS.out _ HON.out
                      clear hK K
                      (try simp only [Act.put, List.setIfInBounds_toArray, List.set_cons_zero, List.set_cons_succ])
                      have F2 := Lib.hid (FewIs.mk' HO.out.size hf2)
                      replace F1 := Lib.hid (F1.out.kept (q2))
                      replace B6 := Lib.hid ((q2).get B6.out (fun x => x))
                      replace LT : Hid (x6 < v3.heap.size) := by have h1 := LT.out; have h2 := q2.size; show x6 < v3.heap.size; omega
                      clear HO
                      have HO := HON
                      clear HON q2 hf2
                      refine wpAnyH_ready (rs := [7]) (by kernel_rfl) (by simp) ?_
                      refine AllReadyH.cons (o := ?_) ?_ ?_ ?_
                      rotate_left 1
                      (focus (simp only [List.getElem?_toArray, List.getElem?_cons_zero, List.getElem?_cons_succ] <;> rfl))
                      · intro K hK
                        go_simp
                        refine hK.out _ _ ?_ (fun hHeld => ?_)
                        · exact HS.out _ (HO.out.alloc _)
                        clear hK K
                        (try simp only [Act.put, List.setIfInBounds_toArray, List.set_cons_zero, List.set_cons_succ])
                        have q3 : Quiet v3 (v3.alloc (.cells #[.int .u64 0, .int .u64 0, .int .u64 0, .int .i64 0, .int .i64 0, .slice none 0 0] 54)) := (Only.refl _ _).alloc _
                        have B7 := Lib.hid (alloc_new v3 (.cells #[.int .u64 0, .int .u64 0, .int .u64 0, .int .i64 0, .int .i64 0, .slice none 0 0] 54))
                        have L7 : Hid (wb.heap.size ≤ v3.heap.size) := HO.out.size
                        replace F1 := Lib.hid (F1.out.kept (q3))
                        replace B6 := Lib.hid ((q3).get B6.out (fun x => x))
                        replace F2 := Lib.hid (F2.out.kept (q3))
                        have HNE : Hid (x6 ≠ v3.heap.size) := by have h1 := lt_of_get B6.out; clear h1; have h2 := LT.out; show x6 ≠ v3.heap.size; omega
                        replace HO := Lib.hid (HO.out.alloc (.cells #[.int .u64 0, .int .u64 0, .int .u64 0, .int .i64 0, .int .i64 0, .slice none 0 0] 54))
                        have LT : Hid (v3.heap.size < (v3.alloc (.cells #[.int .u64 0, .int .u64 0, .int .u64 0, .int .i64 0, .int .i64 0, .slice none 0 0] 54)).heap.size) := by show v3.heap.size < (v3.alloc (.cells #[.int .u64 0, .int .u64 0, .int .u64 0, .int .i64 0, .int .i64 0, .slice none 0 0] 54)).heap.size; rw [World.size_alloc]; omega
                        clear q3
                        generalize v3.alloc (.cells #[.int .u64 0, .int .u64 0, .int .u64 0, .int .i64 0, .int .i64 0, .slice none 0 0] 54) = v4 at HO F1 B6 F2 B7 LT hHeld ⊢
                        generalize v3.heap.size = x7 at B7 L7 LT HNE ⊢
                        exact KEY A1 n1 A2 n2 x6 x7 v4 ⟨HO.out, B6.out, B7.out, L6.out, L7.out, (by have h1 := HNE.out; omega), F1.out, F2.out⟩
                      exact AllReadyH.nil
                    refine AllReadyH.cons (o := ?_) ?_ ?_ ?_
                    rotate_left 1
                    (focus (simp only [List.getElem?_toArray, List.getElem?_cons_zero, List.getElem?_cons_succ] <;> rfl))
                    · intro K hK
                      go_simp
                      refine hK.out _ _ ?_ (fun hHeld => ?_)
                      · exact HS.out _ (HO.out.alloc _)
                      clear hK K
                      (try simp only [Act.put, List.setIfInBounds_toArray, List.set_cons_zero, List.set_cons_succ])
                      have q2 : Quiet v2 (v2.alloc (.cells #[.int .u64 0, .int .u64 0, .int .u64 0, .int .i64 0, .int .i64 0, .slice none 0 0] 54)) := (Only.refl _ _).alloc _
                      have B7 := Lib.hid (alloc_new v2 (.cells #[.int .u64 0, .int .u64 0, .int .u64 0, .int .i64 0, .int .i64 0, .slice none 0 0] 54))
                      have L7 : Hid (wb.heap.size ≤ v2.heap.size) := HO.out.size
                      replace F1 := Lib.hid (F1.out.kept (q2))
                      replace B6 := Lib.hid ((q2).get B6.out (fun x => x))
                      have HNE : Hid (x6 ≠ v2.heap.size) := by have h1 := lt_of_get B6.out; clear h1; have h2 := LT.out; show x6 ≠ v2.heap.size; omega
                      replace HO := Lib.hid (HO.out.alloc (.cells #[.int .u64 0, .int .u64 0, .int .u64 0, .int .i64 0, .int .i64 0, .slice none 0 0] 54))
                      have LT : Hid (v2.heap.size < (v2.alloc (.cells #[.int .u64 0, .int .u64 0, .int .u64 0, .int .i64 0, .int .i64 0, .slice none 0 0] 54)).heap.size) := by show v2.heap.size < (v2.alloc (.cells #[.int .u64 0, .int .u64 0, .int .u64 0, .int .i64 0, .int .i64 0, .slice none 0 0] 54)).heap.size; rw [World.size_alloc]; omega
                      clear q2
                      generalize v2.alloc (.cells #[.int .u64 0, .int .u64 0, .int .u64 0, .int .i64 0, .int .i64 0, .slice none 0 0] 54) = v3 at HO F1 B6 B7 LT hHeld ⊢
                      generalize v2.heap.size = x7 at B7 L7 LT HNE ⊢
                      refine wpAnyH_ready (rs := [5]) (by kernel_rfl) (by simp) ?_
                      refine AllReadyH.cons (o := ?_) ?_ ?_ ?_
                      rotate_left 1
                      (focus (simp only [List.getElem?_toArray, List.getElem?_cons_zero, List.getElem?_cons_succ] <;> rfl))
                      · intro K hK
                        go_simp
                        go_at_call 33
                        refine (HFEW.out _ HO.out).mono ?_
                        rintro e v4 ⟨A2, n2, rfl, hf2⟩
                        unfold tupV
                        have q3 := hf2.quiet
                        have HON := Lib.hid (HO.out.trans' q3 (fun _ _ x => x.elim))
                        dsimp only
                        refine hK.out _ _ ?_ (fun hHeld => ?_)
                        · exact HS.out _ HON.out
                        clear hK K
                        (try simp only [Act.put, List.setIfInBounds_toArray, List.set_cons_zero, List.set_cons_succ])
                        have F2 := Lib.hid (FewIs.mk' HO.out.size hf2)
                        replace F1 := Lib.hid (F1.out.kept (q3))
                        replace B6 := Lib.hid ((q3).get B6.out (fun x => x))
                        replace B7 := Lib.hid ((q3).get B7.out (fun x => x))
                        replace LT : Hid (x7 < v4.heap.size) := by have h1 := LT.out; have h2 := q3.size; show x7 < v4.heap.size; omega
                        clear HO
                        have HO := HON
                        clear HON q3 hf2
                        exact KEY A1 n1 A2 n2 x6 x7 v4 ⟨HO.out, B6.out, B7.out, L6.out, L7.out, (by have h1 := HNE.out; omega), F1.out, F2.out⟩
                      exact AllReadyH.nil
                    exact AllReadyH.nil
                  refine AllReadyH.cons (o := ?_) ?_ ?_ ?_
                  rotate_left 1
                  (focus (simp only [List.getElem?_toArray, List.getElem?_cons_zero, List.getElem?_cons_succ] <;> rfl))
                  · intro K hK
                    go_simp
                    refine hK.out _ _ ?_ (fun hHeld => ?_)
                    · exact HS.out _ (HO.out.alloc _)
                    clear hK K
                    (try simp only [Act.put, List.setIfInBounds_toArray, List.set_cons_zero, List.set_cons_succ])
                    have q1 : Quiet v1 (v1.alloc (.cells #[.int .u64 0, .int .u64 0, .int .u64 0, .int .i64 0, .int .i64 0, .slice none 0 0] 54)) := (Only.refl _ _).alloc _
                    have B7 := Lib.hid (alloc_new v1 (.cells #[.int .u64 0, .int .u64 0, .int .u64 0, .int .i64 0, .int .i64 0, .slice none 0 0] 54))
                    have L7 : Hid (wb.heap.size ≤ v1.heap.size) := HO.out.size
                    replace F1 := Lib.hid (F1.out.kept (q1))
                    replace HO := Lib.hid (HO.out.alloc (.cells #[.int .u64 0, .int .u64 0, .int .u64 0, .int .i64 0, .int .i64 0, .slice none 0 0] 54))
                    have LT : Hid (v1.heap.size < (v1.alloc (.cells #[.int .u64 0, .int .u64 0, .int .u64 0, .int .i64 0, .int .i64 0, .slice none 0 0] 54)).heap.size) := by show v1.heap.size < (v1.alloc (.cells #[.int .u64 0, .int .u64 0, .int .u64 0, .int .i64 0, .int .i64 0, .slice none 0 0] 54)).heap.size; rw [World.size_alloc]; omega
                    clear q1
                    generalize v1.alloc (.cells #[.int .u64 0, .int .u64 0, .int .u64 0, .int .i64 0, .int .i64 0, .slice none 0 0] 54) = v2 at HO F1 B7 LT hHeld ⊢
                    generalize v1.heap.size = x7 at B7 L7 LT ⊢
                    refine wpAnyH_ready (rs := [5, 6]) (by kernel_rfl) (by simp) ?_
                    refine AllReadyH.cons (o := ?_) ?_ ?_ ?_
                    rotate_left 1
                    (focus (simp only [List.getElem?_toArray, List.getElem?_cons_zero, List.getElem?_cons_succ] <;> rfl))
                    · intro K hK
                      go_simp
                      go_at_call 33
                      refine (HFEW.out _ HO.out).mono ?_
                      rintro e v3 ⟨A2, n2, rfl, hf2⟩
                      unfold tupV
                      have q2 := hf2.quiet
                      have HON := Lib.hid (HO.out.trans' q2 (fun _ _ x => x.elim))
                      dsimp only
                      refine hK.out _ _ ?_ (fun hHeld => ?_)
                      · exact HS.out _ HON.out
                      clear hK K
                      (try simp only [Act.put, List.setIfInBounds_toArray, List.set_cons_zero, List.set_cons_succ])
                      have F2 := Lib.hid (FewIs.mk' HO.out.size hf2)
                      replace F1 := Lib.hid (F1.out.kept (q2))
                      replace B7 := Lib.hid ((q2).get B7.out (fun x => x))
                      replace LT : Hid (x7 < v3.heap.size) := by have h1 := LT.out; have h2 := q2.size; show x7 < v3.heap.size; omega
                      clear HO
                      have HO := HON
                      clear HON q2 hf2
                      refine wpAnyH_ready (rs := [6]) (by kernel_rfl) (by simp) ?_
                      refine AllReadyH.cons (o := ?_) ?_ ?_ ?_
                      rotate_left 1
                      (focus (simp only [List.getElem?_toArray, List.getElem?_cons_zero, List.getElem?_cons_succ] <;> rfl))
                      · intro K hK
                        go_simp
                        refine hK.out _ _ ?_ (fun hHeld => ?_)
                        · exact HS.out _ (HO.out.alloc _)
                        clear hK K
                        (try simp only [Act.put, List.setIfInBounds_toArray, List.set_cons_zero, List.set_cons_succ])
                        have q3 : Quiet v3 (v3.alloc (.cells #[.int .u64 0, .int .u64 0, .int .u64 0, .int .i64 0, .int .i64 0, .slice none 0 0] 54)) := (Only.refl _ _).alloc _
                        have B6 := Lib.hid (alloc_new v3 (.cells #[.int .u64 0, .int .u64 0, .int .u64 0, .int .i64 0, .int .i64 0, .slice none 0 0] 54))
                        have L6 : Hid (wb.heap.size ≤ v3.heap.size) := HO.out.size
                        replace F1 := Lib.hid (F1.out.kept (q3))
                        replace B7 := Lib.hid ((q3).get B7.out (fun x => x))
                        replace F2 := Lib.hid (F2.out.kept (q3))
                        have HNE : Hid (x7 ≠ v3.heap.size) := by have h1 := lt_of_get B7.out; clear h1; have h2 := LT.out; show x7 ≠ v3.heap.size; omega
                        replace HO := Lib.hid (HO.out.alloc (.cells #[.int .u64 0, .int .u64 0, .int .u64 0, .int .i64 0, .int .i64 0, .slice none 0 0] 54))
                        have LT : Hid (v3.heap.size < (v3.alloc (.cells #[.int .u64 0, .int .u64 0, .int .u64 0, .int .i64 0, .int .i64 0, .slice none 0 0] 54)).heap.size) := by show v3.heap.size < (v3.alloc (.cells #[.int .u64 0, .int .u64 0, .int .u64 0, .int .i64 0, .int .i64 0, .slice none 0 0] 54)).heap.size; rw [World.size_alloc]; omega
                        clear q3
                        generalize v3.alloc (.cells #[.int .u64 0, .int .u64 0, .int .u64 0, .int .i64 0, .int .i64 0, .slice none 0 0] 54) = v4 at HO F1 B7 F2 B6 LT hHeld ⊢
                        generalize v3.heap.size = x6 at B6 L6 LT HNE ⊢
                        exact KEY A1 n1 A2 n2 x6 x7 v4 ⟨HO.out, B6.out, B7.out, L6.out, L7.out, (by have h1 := HNE.out; omega), F1.out, F2.out⟩
                      exact AllReadyH.nil
                    refine AllReadyH.cons (o := ?_) ?_ ?_ ?_
                    rotate_left 1
                    (focus (simp only [List.getElem?_toArray, List.getElem?_cons_zero, List.getElem?_cons_succ] <;> rfl))
                    · intro K hK
                      go_simp
                      refine hK.out _ _ ?_ (fun hHeld => ?_)
                      · exact HS.out _ (HO.out.alloc _)
                      clear hK K
                      (try simp only [Act.put, List.setIfInBounds_toArray, List.set_cons_zero, List.set_cons_succ])
                      have q2 : Quiet v2 (v2.alloc (.cells #[.int .u64 0, .int .u64 0, .int .u64 0, .int .i64 0, .int .i64 0, .slice none 0 0] 54)) := (Only.refl _ _).alloc _
                      have B6 := Lib.hid (alloc_new v2 (.cells #[.int .u64 0, .int .u64 0, .int .u64 0, .int .i64 0, .int .i64 0, .slice none 0 0] 54))
                      have L6 : Hid (wb.heap.size ≤ v2.heap.size) := HO.out.size
                      replace F1 := Lib.hid (F1.out.kept (q2))
                      replace B7 := Lib.hid ((q2).get B7.out (fun x => x))
                      have HNE : Hid (x7 ≠ v2.heap.size) := by have h1 := lt_of_get B7.out; clear h1; have h2 := LT.out; show x7 ≠ v2.heap.size; omega
                      replace HO := Lib.hid (HO.out.alloc (.cells #[.int .u64 0, .int .u64 0, .int .u64 0, .int .i64 0, .int .i64 0, .slice none 0 0] 54))
                      have LT : Hid (v2.heap.size < (v2.alloc (.cells #[.int .u64 0, .int .u64 0, .int .u64 0, .int .i64 0, .int .i64 0, .slice none 0 0] 54)).heap.size) := by show v2.heap.size < (v2.alloc (.cells #[.int .u64 0, .int .u64 0, .int .u64 0, .int .i64 0, .int .i64 0, .slice none 0 0] 54)).heap.size; rw [World.size_alloc]; omega
                      clear q2
                      generalize v2.alloc (.cells #[.int .u64 0, .int .u64 0, .int .u64 0, .int .i64 0, .int .i64 0, .slice none 0 0] 54) = v3 at HO F1 B7 B6 LT hHeld ⊢
                      generalize v2.heap.size = x6 at B6 L6 LT HNE ⊢
                      refine wpAnyH_ready (rs := [5]) (by kernel_rfl) (by simp) ?_
                      refine AllReadyH.cons (o := ?_) ?_ ?_ ?_
                      rotate_left 1
                      (focus (simp only [List.getElem?_toArray, List.getElem?_cons_zero, List.getElem?_cons_succ] <;> rfl))
                      · intro K hK
                        go_simp
                        go_at_call 33
                        refine (HFEW.out _ HO.out).mono ?_
                        rintro e v4 ⟨A2, n2, rfl, hf2⟩
                        unfold tupV
                        have q3 := hf2.quiet
                        have HON := Lib.hid (HO.out.trans' q3 (fun _ _ x => x.elim))
                        dsimp only
                        refine hK.out _ _ ?_ (fun hHeld => ?_)
                        · exact HS.out _ HON.out
                        clear hK K
                        (try simp only [Act.put, List.setIfInBounds_toArray, List.set_cons_zero, List.set_cons_succ])
                        have F2 := Lib.hid (FewIs.mk' HO.out.size hf2)
                        replace F1 := Lib.hid (F1.out.kept (q3))
                        replace B7 := Lib.hid ((q3).get B7.out (fun x => x))
                        replace B6 := Lib.hid ((q3).get B6.out (fun x => x))
                        replace LT : Hid (x6 < v4.heap.size) := by have h1 := LT.out; have h2 := q3.size; show x6 < v4.heap.size; omega
                        clear HO
                        have HO := HON
                        clear HON q3 hf2
                        exact KEY A1 n1 A2 n2 x6 x7 v4 ⟨HO.out, B6.out, B7.out, L6.out, L7.out, (by have h1 := HNE.out; omega), F1.out, F2.out⟩
                      exact AllReadyH.nil
                    exact AllReadyH.nil
                  exact AllReadyH.nil
                refine AllReadyH.cons (o := ?_) ?_ ?_ ?_
                rotate_left 1
                (focus (simp only [List.getElem?_toArray, List.getElem?_cons_zero, List.getElem?_cons_succ] <;> rfl))
                · intro K hK
                  go_simp
                  refine hK.out _ _ ?_ (fun hHeld => ?_)
                  · exact HS.out _ (HO.out.alloc _)
                  clear hK K
                  (try simp only [Act.put, List.setIfInBounds_toArray, List.set_cons_zero, List.set_cons_succ])
                  have q0 : Quiet v0 (v0.alloc (.cells #[.int .u64 0, .int .u64 0, .int .u64 0, .int .i64 0, .int .i64 0, .slice none 0 0] 54)) := (Only.refl _ _).alloc _
                  have B6 := Lib.hid (alloc_new v0 (.cells #[.int .u64 0, .int .u64 0, .int .u64 0, .int .i64 0, .int .i64 0, .slice none 0 0] 54))
                  have L6 : Hid (wb.heap.size ≤ v0.heap.size) := HO.out.size
                  replace HO := Lib.hid (HO.out.alloc (.cells #[.int .u64 0, .int .u64 0, .int .u64 0, .int .i64 0, .int .i64 0, .slice none 0 0] 54))
                  have LT : Hid (v0.heap.size < (v0.alloc (.cells #[.int .u64 0, .int .u64 0, .int .u64 0, .int .i64 0, .int .i64 0, .slice none 0 0] 54)).heap.size) := by show v0.heap.size < (v0.alloc (.cells #[.int .u64 0, .int .u64 0, .int .u64 0, .int .i64 0, .int .i64 0, .slice none 0 0] 54)).heap.size; rw [World.size_alloc]; omega
                  clear q0
                  generalize v0.alloc (.cells #[.int .u64 0, .int .u64 0, .int .u64 0, .int .i64 0, .int .i64 0, .slice none 0 0] 54) = v1 at HO B6 LT hHeld ⊢
                  generalize v0.heap.size = x6 at B6 L6 LT ⊢
                  refine wpAnyH_ready (rs := [2, 7]) (by kernel_rfl) (by simp) ?_
                  refine AllReadyH.cons (o := ?_) ?_ ?_ ?_
                  rotate_left 1
                  (focus (simp only [List.getElem?_toArray, List.getElem?_cons_zero, List.getElem?_cons_succ] <;> rfl))
                  · intro K hK
                    go_simp
                    go_at_call 33
                    refine (HFEW.out _ HO.out).mono ?_
                    rintro e v2 ⟨A1, n1, rfl, hf1⟩
                    unfold tupV
                    have q1 := hf1.quiet
                    have HON := Lib.hid (HO.out.trans' q1 (fun _ _ x => x.elim))
                    dsimp only
                    refine hK.out _ _ ?_ (fun hHeld => ?_)
                    · exact HS.out _ HON.out
                    clear hK K
                    (try simp only [Act.put, List.setIfInBounds_toArray, List.set_cons_zero, List.set_cons_succ])
                    have F1 := Lib.hid (FewIs.mk' HO.out.size hf1)
                    replace B6 := Lib.hid ((q1).get B6.out (fun x => x))
                    replace LT : Hid (x6 < v2.heap.size) := by have h1 := LT.out; have h2 := q1.size; show x6 < v2.heap.size; omega
                    clear HO
                    have HO := HON
                    clear HON q1 hf1
                    refine wpAnyH_ready (rs := [5, 7]) (by kernel_rfl) (by simp) ?_
                    refine AllReadyH.cons (o := ?_) ?_ ?_ ?_
                    rotate_left 1
                    (focus (simp only [List.getElem?_toArray, List.getElem?_cons_zero, List.getElem?_cons_succ] <;> rfl))
                    · intro K hK
                      go_simp
                      go_at_call 33
                      refine (HFEW.out _ HO.out).mono ?_
                      rintro e v3 ⟨A2, n2, rfl, hf2⟩
                      unfold tupV
                      have q2 := hf2.quiet
                      have HON := Lib.hid (HO.out.trans' q2 (fun _ _ x => x.elim))
                      dsimp only
                      refine hK.out _ _ ?_ (fun hHeld => ?_)
                      · exact HS.out _ HON.out
                      clear hK K
                      (try simp only [Act.put, List.setIfInBounds_toArray, List.set_cons_zero, List.set_cons_succ])
                      have F2 := Lib.hid (FewIs.mk' HO.out.size hf2)
                      replace B6 := Lib.hid ((q2).get B6.out (fun x => x))
                      replace F1 := Lib.hid (F1.out.kept (q2))
                      replace LT : Hid (x6 < v3.heap.size) := by have h1 := LT.out; have h2 := q2.size; show x6 < v3.heap.size; omega
                      clear HO
                      have HO := HON
                      clear HON q2 hf2
                      refine wpAnyH_ready (rs := [7]) (by kernel_rfl) (by simp) ?_
                      refine AllReadyH.cons (o := ?_) ?_ ?_ ?_
                      rotate_left 1
                      (focus (simp only [List.getElem?_toArray, List.getElem?_cons_zero, List.getElem?_cons_succ] <;> rfl))
                      · intro K hK
                        go_simp
                        refine hK.out _ _ ?_ (fun hHeld => ?_)
                        · exact HS.out _ (HO.out.alloc _)
                        clear hK K
                        (try simp only [Act.put, List.setIfInBounds_toArray, List.set_cons_zero, List.set_cons_succ])
                        have q3 : Quiet v3 (v3.alloc (.cells #[.int .u64 0, .int .u64 0, .int .u64 0, .int .i64 0, .int .i64 0, .slice none 0 0] 54)) := (Only.refl _ _).alloc _
                        have B7 := Lib.hid (alloc_new v3 (.cells #[.int .u64 0, .int .u64 0, .int .u64 0, .int .i64 0, .int .i64 0, .slice none 0 0] 54))
                        have L7 : Hid (wb.heap.size ≤ v3.heap.size) := HO.out.size
                        replace B6 := Lib.hid ((q3).get B6.out (fun x => x))
                        replace F1 := Lib.hid (F1.out.kept (q3))
                        replace F2 := Lib.hid (F2.out.kept (q3))
                        have HNE : Hid (x6 ≠ v3.heap.size) := by have h1 := lt_of_get B6.out; clear h1; have h2 := LT.out; show x6 ≠ v3.heap.size; omega
                        replace HO := Lib.hid (HO.out.alloc (.cells #[.int .u64 0, .int .u64 0, .int .u64 0, .int .i64 0, .int .i64 0, .slice none 0 0] 54))
                        have LT : Hid (v3.heap.size < (v3.alloc (.cells #[.int .u64 0, .int .u64 0, .int .u64 0, .int .i64 0, .int .i64 0, .slice none 0 0] 54)).heap.size) := by show v3.heap.size < (v3.alloc (.cells #[.int .u64 0, .int .u64 0, .int .u64 0, .int .i64 0, .int .i64 0, .slice none 0 0] 54)).heap.size; rw [World.size_alloc]; omega
                        clear q3
                        generalize v3.alloc (.cells #[.int .u64 0, .int .u64 0, .int .u64 0, .int .i64 0, .int .i64 0, .slice none 0 0] 54) = v4 at HO B6 F1 F2 B7 LT hHeld ⊢
                        generalize v3.heap.size = x7 at B7 L7 LT HNE ⊢
                        exact KEY A1 n1 A2 n2 x6 x7 v4 ⟨HO.out, B6.out, B7.out, L6.out, L7.out, (by have h1 := HNE.out; omega), F1.out, F2.out⟩
                      exact AllReadyH.nil
                    refine AllReadyH.cons (o := ?_) ?_ ?_ ?_
                    rotate_left 1
                    (focus (simp only [List.getElem?_toArray, List.getElem?_cons_zero, List.getElem?_cons_succ] <;> rfl))
                    · intro K hK
                      go_simp
                      refine hK.out _ _ ?_ (fun hHeld => ?_)
                      · exact HS.out _ (HO.out.alloc _)
                      clear hK K
                      (try simp only [Act.put, List.setIfInBounds_toArray, List.set_cons_zero, List.set_cons_succ])
                      have q2 : Quiet v2 (v2.alloc (.cells #[.int .u64 0, .int .u64 0, .int .u64 0, .int .i64 0, .int .i64 0, .slice none 0 0] 54)) := (Only.refl _ _).alloc _
                      have B7 := Lib.hid (alloc_new v2 (.cells #[.int .u64 0, .int .u64 0, .int .u64 0, .int .i64 0, .int .i64 0, .slice none 0 0] 54))
                      have L7 : Hid (wb.heap.size ≤ v2.heap.size) := HO.out.size
                      replace B6 := Lib.hid ((q2).get B6.out (fun x => x))
                      replace F1 := Lib.hid (F1.out.kept (q2))
                      have HNE : Hid (x6 ≠ v2.heap.size) := by have h1 := lt_of_get B6.out; clear h1; have h2 := LT.out; show x6 ≠ v2.heap.size; omega
                      replace HO := Lib.hid (HO.out.alloc (.cells #[.int .u64 0, .int .u64 0, .int .u64 0, .int .i64 0, .int .i64 0, .slice none 0 0] 54))
                      have LT : Hid (v2.heap.size < (v2.alloc (.cells #[.int .u64 0, .int .u64 0, .int .u64 0, .int .i64 0, .int .i64 0, .slice none 0 0] 54)).heap.size) := by show v2.heap.size < (v2.alloc (.cells #[.int .u64 0, .int .u64 0, .int .u64 0, .int .i64 0, .int .i64 0, .slice none 0 0] 54)).heap.size; rw [World.size_alloc]; omega
                      clear q2
                      generalize v2.alloc (.cells #[.int .u64 0, .int .u64 0, .int .u64 0, .int .i64 0, .int .i64 0, .slice none 0 0] 54) = v3 at HO B6 F1 B7 LT hHeld ⊢
                      generalize v2.heap.size = x7 at B7 L7 LT HNE ⊢
                      refine wpAnyH_ready (rs := [5]) (by kernel_rfl) (by simp) ?_
                      refine AllReadyH.cons (o := ?_) ?_ ?_ ?_
                      rotate_left 1
                      (focus (simp only [List.getElem?_toArray, List.getElem?_cons_zero, List.getElem?_cons_succ] <;> rfl))
                      · intro K hK
                        go_simp
                        go_at_call 33
                        refine (HFEW.out _ HO.out).mono ?_
                        rintro e v4 ⟨A2, n2, rfl, hf2⟩
                        unfold tupV
                        have q3 := hf2.quiet
                        have HON := Lib.hid (HO.out.trans' q3 (fun _ _ x => x.elim))
                        dsimp only
                        refine hK.out _ _ ?_ (fun hHeld => ?_)
                        · exact HS.out _ HON.out
                        clear hK K
                        (try simp only [Act.put, List.setIfInBounds_toArray, List.set_cons_zero, List.set_cons_succ])
                        have F2 := Lib.hid (FewIs.mk' HO.out.size hf2)
                        replace B6 := Lib.hid ((q3).get B6.out (fun x => x))
                        replace F1 := Lib.hid (F1.out.kept (q3))
                        replace B7 := Lib.hid ((q3).get B7.out (fun x => x))
                        replace LT : Hid (x7 < v4.heap.size) := by have h1 := LT.out; have h2 := q3.size; show x7 < v4.heap.size; omega
                        clear HO
                        have HO := HON
                        clear HON q3 hf2
                        exact KEY A1 n1 A2 n2 x6 x7 v4 ⟨HO.out, B6.out, B7.out, L6.out, L7.out, (by have h1 := HNE.out; omega), F1.out, F2.out⟩
                      exact AllReadyH.nil
                    exact AllReadyH.nil
                  refine AllReadyH.cons (o := ?_) ?_ ?_ ?_
                  rotate_left 1
                  (focus (simp only [List.getElem?_toArray, List.getElem?_cons_zero, List.getElem?_cons_succ] <;> rfl))
                  · intro K hK
                    go_simp
                    refine hK.out _ _ ?_ (fun hHeld => ?_)
                    · exact HS.out _ (HO.out.alloc _)
                    clear hK K
                    (try simp only [Act.put, List.setIfInBounds_toArray, List.set_cons_zero, List.set_cons_succ])
                    have q1 : Quiet v1 (v1.alloc (.cells #[.int .u64 0, .int .u64 0, .int .u64 0, .int .i64 0, .int .i64 0, .slice none 0 0] 54)) := (Only.refl _ _).alloc _
                    have B7 := Lib.hid (alloc_new v1 (.cells #[.int .u64 0, .int .u64 0, .int .u64 0, .int .i64 0, .int .i64 0, .slice none 0 0] 54))
                    have L7 : Hid (wb.heap.size ≤ v1.heap.size) := HO.out.size
                    replace B6 := Lib.hid ((q1).get B6.out (fun x => x))
                    have HNE : Hid (x6 ≠ v1.heap.size) := by have h1 := lt_of_get B6.out; clear h1; have h2 := LT.out; show x6 ≠ v1.heap.size; omega
                    replace HO := Lib.hid (HO.out.alloc (.cells #[.int .u64 0, .int .u64 0, .int .u64 0, .int .i64 0, .int .i64 0, .slice none 0 0] 54))
                    have LT : Hid (v1.heap.size < (v1.alloc (.cells #[.int .u64 0, .int .u64 0, .int .u64 0, .int .i64 0, .int .i64 0, .slice none 0 0] 54)).heap.size) := by show v1.heap.size < (v1.alloc (.cells #[.int .u64 0, .int .u64 0, .int .u64 0, .int .i64 0, .int .i64 0, .slice none 0 0] 54)).heap.size; rw [World.size_alloc]; omega
                    clear q1
                    generalize v1.alloc (.cells #[.int .u64 0, .int .u64 0, .int .u64 0, .int .i64 0, .int .i64 0, .slice none 0 0] 54) = v2 at HO B6 B7 LT hHeld ⊢
                    generalize v1.heap.size = x7 at B7 L7 LT HNE ⊢
                    refine wpAnyH_ready (rs := [2]) (by kernel_rfl) (by simp) ?_
                    refine AllReadyH.cons (o := ?_) ?_ ?_ ?_
                    rotate_left 1
                    (focus (simp only [List.getElem?_toArray, List.getElem?_cons_zero, List.getElem?_cons_succ] <;> rfl))
                    · intro K hK
                      go_simp
                      go_at_call 33
                      refine (HFEW.out _ HO.out).mono ?_
                      rintro e v3 ⟨A1, n1, rfl, hf1⟩
                      unfold tupV
                      have q2 := hf1.quiet
                      have HON := Lib.hid (HO.out.trans' q2 (fun _ _ x => x.elim))
                      dsimp only
                      refine hK.out _ _ ?_ (fun hHeld => ?_)
                      · exact HS.out _ HON.out
                      clear hK K
                      (try simp only [Act.put, List.setIfInBounds_toArray, List.set_cons_zero, List.set_cons_succ])
                      have F1 := Lib.hid (FewIs.mk' HO.out.size hf1)
                      replace B6 := Lib.hid ((q2).get B6.out (fun x => x))
                      replace B7 := Lib.hid ((q2).get B7.out (fun x => x))
                      replace LT : Hid (x7 < v3.heap.size) := by have h1 := LT.out; have h2 := q2.size; show x7 < v3.heap.size; omega
                      clear HO
                      have HO := HON
                      clear HON q2 hf1
                      refine wpAnyH_ready (rs := [5]) (by kernel_rfl) (by simp) ?_
                      refine AllReadyH.cons (o := ?_) ?_ ?_ ?_
                      rotate_left 1
                      (focus (simp only [List.getElem?_toArray, List.getElem?_cons_zero, List.getElem?_cons_succ] <;> rfl))
                      · intro K hK
                        go_simp
                        go_at_call 33
                        refine (HFEW.out _ HO.out).mono ?_
                        rintro e v4 ⟨A2, n2, rfl, hf2⟩
                        unfold tupV
                        have q3 := hf2.quiet
                        have HON := Lib.hid (HO.out.trans' q3 (fun _ _ x => x.elim))
                        dsimp only
                        refine hK.out _ _ ?_ (fun hHeld => ?_)
                        · exact HS.out _ HON.out
                        clear hK K
                        (try simp only [Act.put, List.setIfInBounds_toArray, List.set_cons_zero, List.set_cons_succ])
                        have F2 := Lib.hid (FewIs.mk' HO.out.size hf2)
                        replace B6 := Lib.hid ((q3).get B6.out (fun x => x))
                        replace B7 := Lib.hid ((q3).get B7.out (fun x => x))
                        replace F1 := Lib.hid (F1.out.kept (q3))
                        replace LT : Hid (x7 < v4.heap.size) := by have h1 := LT.out; have h2 := q3.size; show x7 < v4.heap.size; omega
                        clear HO
                        have HO := HON
                        clear HON q3 hf2
                        exact KEY A1 n1 A2 n2 x6 x7 v4 ⟨HO.out, B6.out, B7.out, L6.out, L7.out, (by have h1 := HNE.out; omega), F1.out, F2.out⟩
                      exact AllReadyH.nil
                    exact AllReadyH.nil
                  exact AllReadyH.nil
                refine AllReadyH.cons (o := ?_) ?_ ?_ ?_
                rotate_left 1
                (focus (simp only [List.getElem?_toArray, List.getElem?_cons_zero, List.getElem?_cons_succ] <;> rfl))
                · intro K hK
                  go_simp
                  refine hK.out _ _ ?_ (fun hHeld => ?_)
                  · exact HS.out _ (HO.out.alloc _)
                  clear hK K
                  (try simp only [Act.put, List.setIfInBounds_toArray, List.set_cons_zero, List.set_cons_succ])
                  have q0 : Quiet v0 (v0.alloc (.cells #[.int .u64 0, .int .u64 0, .int .u64 0, .int .i64 0, .int .i64 0, .slice none 0 0] 54)) := (Only.refl _ _).alloc _
                  have B7 := Lib.hid (alloc_new v0 (.cells #[.int .u64 0, .int .u64 0, .int .u64 0, .int .i64 0, .int .i64 0, .slice none 0 0] 54))
                  have L7 : Hid (wb.heap.size ≤ v0.heap.size) := HO.out.size
                  replace HO := Lib.hid (HO.out.alloc (.cells #[.int .u64 0, .int .u64 0, .int .u64 0, .int .i64 0, .int .i64 0, .slice none 0 0] 54))
                  have LT : Hid (v0.heap.size < (v0.alloc (.cells #[.int .u64 0, .int .u64 0, .int .u64 0, .int .i64 0, .int .i64 0, .slice none 0 0] 54)).heap.size) := by show v0.heap.size < (v0.alloc (.cells #[.int .u64 0, .int .u64 0, .int .u64 0, .int .i64 0, .int .i64 0, .slice none 0 0] 54)).heap.size; rw [World.size_alloc]; omega
                  clear q0
                  generalize v0.alloc (.cells #[.int .u64 0, .int .u64 0, .int .u64 0, .int .i64 0, .int .i64 0, .slice none 0 0] 54) = v1 at HO B7 LT hHeld ⊢
                  generalize v0.heap.size = x7 at B7 L7 LT ⊢
                  refine wpAnyH_ready (rs := [2, 6]) (by kernel_rfl) (by simp) ?_
                  refine AllReadyH.cons (o := ?_) ?_ ?_ ?_
                  rotate_left 1
                  (focus (simp only [List.getElem?_toArray, List.getElem?_cons_zero, List.getElem?_cons_succ] <;> rfl))
                  · intro K hK
                    go_simp
                    go_at_call 33
                    refine (HFEW.out _ HO.out).mono ?_
                    rintro e v2 ⟨A1, n1, rfl, hf1⟩
                    unfold tupV
                    have q1 := hf1.quiet
                    have HON := Lib.hid (HO.out.trans' q1 (fun _ _ x => x.elim))
                    dsimp only
                    refine hK.out _ _ ?_ (fun hHeld => ?_)
                    · exact HS.out _ HON.out
                    clear hK K
                    (try simp only [Act.put, List.setIfInBounds_toArray, List.set_cons_zero, List.set_cons_succ])
                    have F1 := Lib.hid (FewIs.mk' HO.out.size hf1)
                    replace B7 := Lib.hid ((q1).get B7.out (fun x => x))
                    replace LT : Hid (x7 < v2.heap.size) := by have h1 := LT.out; have h2 := q1.size; show x7 < v2.heap.size; omega
                    clear HO
                    have HO := HON
                    clear HON q1 hf1
                    refine wpAnyH_ready (rs := [5, 6]) (by kernel_rfl) (by simp) ?_
                    refine AllReadyH.cons (o := ?_) ?_ ?_ ?_
                    rotate_left 1
                    (focus (simp only [List.getElem?_toArray, List.getElem?_cons_zero, List.getElem?_cons_succ] <;> rfl))
                    · intro K hK
                      go_simp
                      go_at_call 33
                      refine (HFEW.out _ HO.out).mono ?_
                      rintro e v3 ⟨A2, n2, rfl, hf2⟩
                      unfold tupV
                      have q2 := hf2.quiet
                      have HON := Lib.hid (HO.out.trans' q2 (fun _ _ x => x.elim))
                      dsimp only
                      refine hK.out _ _ ?_ (fun hHeld => ?_)
                      · exact HS.out _ HON.out
                      clear hK K
                      (try simp only [Act.put, List.setIfInBounds_toArray, List.set_cons_zero, List.set_cons_succ])
                      have F2 := Lib.hid (FewIs.mk' HO.out.size hf2)
                      replace B7 := Lib.hid ((q2).get B7.out (fun x => x))
                      replace F1 := Lib.hid (F1.out.kept (q2))
                      replace LT : Hid (x7 < v3.heap.size) := by have h1 := LT.out; have h2 := q2.size; show x7 < v3.heap.size; omega
                      clear HO
                      have HO := HON
                      clear HON q2 hf2
                      refine wpAnyH_ready (rs := [6]) (by kernel_rfl) (by simp) ?_
                      refine AllReadyH.cons (o := ?_) ?_ ?_ ?_
                      rotate_left 1
                      (focus (simp only [List.getElem?_toArray, List.getElem?_cons_zero, List.getElem?_cons_succ] <;> rfl))
                      · intro K hK
                        go_simp
                        refine hK.out _ _ ?_ (fun hHeld => ?_)
                        · exact HS.out _ (HO.out.alloc _)
                        clear hK K
                        (try simp only [Act.put, List.setIfInBounds_toArray, List.set_cons_zero, List.set_cons_succ])
                        have q3 : Quiet v3 (v3.alloc (.cells #[.int .u64 0, .int .u64 0, .int .u64 0, .int .i64 0, .int .i64 0, .slice none 0 0] 54)) := (Only.refl _ _).alloc _
                        have B6 := Lib.hid (alloc_new v3 (.cells #[.int .u64 0, .int .u64 0, .int .u64 0, .int .i64 0, .int .i64 0, .slice none 0 0] 54))
                        have L6 : Hid (wb.heap.size ≤ v3.heap.size) := HO.out.size
                        replace B7 := Lib.hid ((q3).get B7.out (fun x => x))
                        replace F1 := Lib.hid (F1.out.kept (q3))
                        replace F2 := Lib.hid (F2.out.kept (q3))
                        have HNE : Hid (x7 ≠ v3.heap.size) := by have h1 := lt_of_get B7.out; clear h1; have h2 := LT.out; show x7 ≠ v3.heap.size; omega
                        replace HO := Lib.hid (HO.out.alloc (.cells #[.int .u64 0, .int .u64 0, .int .u64 0, .int .i64 0, .int .i64 0, .slice none 0 0] 54))
                        have LT : Hid (v3.heap.size < (v3.alloc (.cells #[.int .u64 0, .int .u64 0, .int .u64 0, .int .i64 0, .int .i64 0, .slice none 0 0] 54)).heap.size) := by show v3.heap.size < (v3.alloc (.cells #[.int .u64 0, .int .u64 0, .int .u64 0, .int .i64 0, .int .i64 0, .slice none 0 0] 54)).heap.size; rw [World.size_alloc]; omega
                        clear q3
                        generalize v3.alloc (.cells #[.int .u64 0, .int .u64 0, .int .u64 0, .int .i64 0, .int .i64 0, .slice none 0 0] 54) = v4 at HO B7 F1 F2 B6 LT hHeld ⊢
                        generalize v3.heap.size = x6 at B6 L6 LT HNE ⊢
                        exact KEY A1 n1 A2 n2 x6 x7 v4 ⟨HO.out, B6.out, B7.out, L6.out, L7.out, (by have h1 := HNE.out; omega), F1.out, F2.out⟩
                      exact AllReadyH.nil
                    refine AllReadyH.cons (o := ?_) ?_ ?_ ?_
                    rotate_left 1
                    (focus (simp only [List.getElem?_toArray, List.getElem?_cons_zero, List.getElem?_cons_succ] <;> rfl))
                    · intro K hK
                      go_simp
                      refine hK.out _ _ ?_ (fun hHeld => ?_)
                      · exact HS.out _ (HO.out.alloc _)
                      clear hK K
                      (try simp only [Act.put, List.setIfInBounds_toArray, List.set_cons_zero, List.set_cons_succ])
                      have q2 : Quiet v2 (v2.alloc (.cells #[.int .u64 0, .int .u64 0, .int .u64 0, .int .i64 0, .int .i64 0, .slice none 0 0] 54)) := (Only.refl _ _).alloc _
                      have B6 := Lib.hid (alloc_new v2 (.cells #[.int .u64 0, .int .u64 0, .int .u64 0, .int .i64 0, .int .i64 0, .slice none 0 0] 54))
                      have L6 : Hid (wb.heap.size ≤ v2.heap.size) := HO.out.size
                      replace B7 := Lib.hid ((q2).get B7.out (fun x => x))
                      replace F1 := Lib.hid (F1.out.kept (q2))
                      have HNE : Hid (x7 ≠ v2.heap.size) := by have h1 := lt_of_get B7.out; clear h1; have h2 := LT.out; show x7 ≠ v2.heap.size; omega
                      replace HO := Lib.hid (HO.out.alloc (.cells #[.int .u64 0, .int .u64 0, .int .u64 0, .int .i64 0, .int .i64 0, .slice none 0 0] 54))
                      have LT : Hid (v2.heap.size < (v2.alloc (.cells #[.int .u64 0, .int .u64 0, .int .u64 0, .int .i64 0, .int .i64 0, .slice none 0 0] 54)).heap.size) := by show v2.heap.size < (v2.alloc (.cells #[.int .u64 0, .int .u64 0, .int .u64 0, .int .i64 0, .int .i64 0, .slice none 0 0] 54)).heap.size; rw [World.size_alloc]; omega
                      clear q2
                      generalize v2.alloc (.cells #[.int .u64 0, .int .u64 0, .int .u64 0, .int .i64 0, .int .i64 0, .slice none 0 0] 54) = v3 at HO B7 F1 B6 LT hHeld ⊢
                      generalize v2.heap.size = x6 at B6 L6 LT HNE ⊢
                      refine wpAnyH_ready (rs := [5]) (by kernel_rfl) (by simp) ?_
                      refine AllReadyH.cons (o := ?_) ?_ ?_ ?_
                      rotate_left 1
                      (focus (simp only [List.getElem?_toArray, List.getElem?_cons_zero, List.getElem?_cons_succ] <;> rfl))
                      · intro K hK
                        go_simp
                        go_at_call 33
                        refine (HFEW.out _ HO.out).mono ?_
                        rintro e v4 ⟨A2, n2, rfl, hf2⟩
                        unfold tupV
                        have q3 := hf2.quiet
                        have HON := Lib.hid (HO.out.trans' q3 (fun _ _ x => x.elim))
                        dsimp only
                        refine hK.out _ _ ?_ (fun hHeld => ?_)
                        · exact HS.out _ HON.out
                        clear hK K
                        (try simp only [Act.put, List.setIfInBounds_toArray, List.set_cons_zero, List.set_cons_succ])
                        have F2 := Lib.hid (FewIs.mk' HO.out.size hf2)
                        replace B7 := Lib.hid ((q3).get B7.out (fun x => x))
                        replace F1 := Lib.hid (F1.out.kept (q3))
                        replace B6 := Lib.hid ((q3).get B6.out (fun x => x))
                        replace LT : Hid (x6 < v4.heap.size) := by have h1 := LT.out; have h2 := q3.size; show x6 < v4.heap.size; omega
                        clear HO
                        have HO := HON
                        clear HON q3 hf2
                        exact KEY A1 n1 A2 n2 x6 x7 v4 ⟨HO.out, B6.out, B7.out, L6.out, L7.out, (by have h1 := HNE.out; omega), F1.out, F2.out⟩
                      exact AllReadyH.nil
                    exact AllReadyH.nil
                  refine AllReadyH.cons (o := ?_) ?_ ?_ ?_
                  rotate_left 1
                  (focus (simp only [List.getElem?_toArray, List.getElem?_cons_zero, List.getElem?_cons_succ] <;> rfl))
                  · intro K hK
                    go_simp
                    refine hK.out _ _ ?_ (fun hHeld => ?_)
                    · exact HS.out _ (HO.out.alloc _)
                    clear hK K
                    (try simp only [Act.put, List.setIfInBounds_toArray, List.set_cons_zero, List.set_cons_succ])
                    have q1 : Quiet v1 (v1.alloc (.cells #[.int .u64 0, .int .u64 0, .int .u64 0, .int .i64 0, .int .i64 0, .slice none 0 0] 54)) := (Only.refl _ _).alloc _
                    have B6 := Lib.hid (alloc_new v1 (.cells #[.int .u64 0, .int .u64 0, .int .u64 0, .int .i64 0, .int .i64 0, .slice none 0 0] 54))
                    have L6 : Hid (wb.heap.size ≤ v1.heap.size) := HO.out.size
                    replace B7 := Lib.hid ((q1).get B7.out (fun x => x))
                    have HNE : Hid (x7 ≠ v1.heap.size) := by have h1 := lt_of_get B7.out; clear h1; have h2 := LT.out; show x7 ≠ v1.heap.size; omega
                    replace HO := Lib.hid (HO.out.alloc (.cells #[.int .u64 0, .int .u64 0, .int .u64 0, .int .i64 0, .int .i64 0, .slice none 0 0] 54))
                    have LT : Hid (v1.heap.size < (v1.alloc (.cells #[.int .u64 0, .int .u64 0, .int .u64 0, .int .i64 0, .int .i64 0, .slice none 0 0] 54)).heap.size) := by show v1.heap.size < (v1.alloc (.cells #[.int .u64 0, .int .u64 0, .int .u64 0, .int .i64 0, .int .i64 0, .slice none 0 0] 54)).heap.size; rw [World.size_alloc]; omega
                    clear q1
                    generalize v1.alloc (.cells #[.int .u64 0, .int .u64 0, .int .u64 0, .int .i64 0, .int .i64 0, .slice none 0 0] 54) = v2 at HO B7 B6 LT hHeld ⊢
                    generalize v1.heap.size = x6 at B6 L6 LT HNE ⊢
                    refine wpAnyH_ready (rs := [2]) (by kernel_rfl) (by simp) ?_
                    refine AllReadyH.cons (o := ?_) ?_ ?_ ?_
                    rotate_left 1
                    (focus (simp only [List.getElem?_toArray, List.getElem?_cons_zero, List.getElem?_cons_succ] <;> rfl))
                    · intro K hK
                      go_simp
                      go_at_call 33
                      refine (HFEW.out _ HO.out).mono ?_
                      rintro e v3 ⟨A1, n1, rfl, hf1⟩
                      unfold tupV
                      have q2 := hf1.quiet
                      have HON := Lib.hid (HO.out.trans' q2 (fun _ _ x => x.elim))
                      dsimp only
                      refine hK.out _ _ ?_ (fun hHeld => ?_)
                      · exact HS.out _ HON.out
                      clear hK K
                      (try simp only [Act.put, List.setIfInBounds_toArray, List.set_cons_zero, List.set_cons_succ])
                      have F1 := Lib.hid (FewIs.mk' HO.out.size hf1)
                      replace B7 := Lib.hid ((q2).get B7.out (fun x => x))
                      replace B6 := Lib.hid ((q2).get B6.out (fun x => x))
                      replace LT : Hid (x6 < v3.heap.size) := by have h1 := LT.out; have h2 := q2.size; show x6 < v3.heap.size; omega
                      clear HO
                      have HO := HON
                      clear HON q2 hf1
                      refine wpAnyH_ready (rs := [5]) (by kernel_rfl) (by simp) ?_
                      refine AllReadyH.cons (o := ?_) ?_ ?_ ?_
                      rotate_left 1
                      (focus (simp only [List.getElem?_toArray, List.getElem?_cons_zero, List.getElem?_cons_succ] <;> rfl))
                      · intro K hK
                        go_simp
                        go_at_call 33
                        refine (HFEW.out _ HO.out).mono ?_
                        rintro e v4 ⟨A2, n2, rfl, hf2⟩
                        unfold tupV
                        have q3 := hf2.quiet
                        have HON := Lib.hid (HO.out.trans' q3 (fun _ _ x => x.elim))
                        dsimp only
                        refine hK.out _ _ ?_ (fun hHeld => ?_)
                        · exact HS.out _ HON.out
                        clear hK K
                        (try simp only [Act.put, List.setIfInBounds_toArray, List.set_cons_zero, List.set_cons_succ])
                        have F2 := Lib.hid (FewIs.mk' HO.out.size hf2)
                        replace B7 := Lib.hid ((q3).get B7.out (fun x => x))
                        replace B6 := Lib.hid ((q3).get B6.out (fun x => x))
                        replace F1 := Lib.hid (F1.out.kept (q3))
                        replace LT : Hid (x6 < v4.heap.size) := by have h1 := LT.out; have h2 := q3.size; show x6 < v4.heap.size; omega
                        clear HO
                        have HO := HON
                        clear HON q3 hf2
                        exact KEY A1 n1 A2 n2 x6 x7 v4 ⟨HO.out, B6.out, B7.out, L6.out, L7.out, (by have h1 := HNE.out; omega), F1.out, F2.out⟩
                      exact AllReadyH.nil
                    exact AllReadyH.nil
                  exact AllReadyH.nil
                exact AllReadyH.nil
              case key =>
                intro A1 n1 A2 n2 x6 x7 vz hl
                (try dsimp only)
                have HO := Lib.hid hl.only
                have B6 := Lib.hid hl.b6
                have B7 := Lib.hid hl.b7
                have L6 := Lib.hid hl.l6
                have L7 := Lib.hid hl.l7
                have HNE := Lib.hid hl.ne
                have F1 := Lib.hid hl.f1
                have F2 := Lib.hid hl.f2
                clear hl
                obtain ⟨z0, z1, z2, z3, z4, z5⟩ := zero_cells B6.out
                have zf := fun o => frozen_of B6.out o
                have HB6 := Lib.hid (sixSet_same B6.out (.int .u64 (t.few.row : Int)) (.int .u64 (t.few.xmin : Int)) (.int .u64 (t.few.xmax : Int)) (.int .i64 t.few.pg) (.int .i64 t.few.sl) (.slice A1 t.few.data.length n1))
                have hn67 : ¬ x6 = x7 := by have h1 := HNE.out; omega
                have hn76 : ¬ x7 = x6 := fun e => hn67 e.symm
                have HO6 := Lib.hid (sixSet_only vz x6 (.int .u64 (t.few.row : Int)) (.int .u64 (t.few.xmin : Int)) (.int .u64 (t.few.xmax : Int)) (.int .i64 t.few.pg) (.int .i64 t.few.sl) (.slice A1 t.few.data.length n1))
                unfold sixSet at HB6 HO6
                refine wpAnyH_ready (rs := [8]) (by kernel_rfl) (by simp) ?_
                refine AllReadyH.cons (o := ?_) ?_ ?_ ?_
                rotate_left 1
                (focus (simp only [List.getElem?_toArray, List.getElem?_cons_zero, List.getElem?_cons_succ] <;> rfl))
                · intro K hK
                  go_simp
                  refine hK.out _ _ ?_ (fun hHeld => ?_)
                  · exact HS.out _ (HO.out.trans' HO6.out (fun k _ e => by subst e; exact L6.out))
                  clear hK K
                  (try simp only [Act.put, List.setIfInBounds_toArray, List.set_cons_zero, List.set_cons_succ])
                  replace HO := Lib.hid (HO.out.trans' HO6.out (fun k _ e => by subst e; exact L6.out))
                  replace B7 := Lib.hid (HO6.out.get B7.out hn76)
                  replace F1 := Lib.hid (F1.out.kept2 HO6.out B6.out)
                  replace F2 := Lib.hid (F2.out.kept2 HO6.out B6.out)
                  clear HO6 B6 z0 z1 z2 z3 z4 z5 zf
                  generalize ((((((vz.setCell ⟨x6, 0, none⟩ (.int .u64 (t.few.row : Int))).setCell ⟨x6, 1, none⟩ (.int .u64 (t.few.xmin : Int))).setCell ⟨x6, 2, none⟩ (.int .u64 (t.few.xmax : Int))).setCell ⟨x6, 3, none⟩ (.int .i64 t.few.pg)).setCell ⟨x6, 4, none⟩ (.int .i64 t.few.sl)).setCell ⟨x6, 5, none⟩ (.slice A1 t.few.data.length n1)) = va at HO HB6 B7 F1 F2 ⊢
                  obtain ⟨z0, z1, z2, z3, z4, z5⟩ := zero_cells B7.out
                  have zf := fun o => frozen_of B7.out o
                  have HB7 := Lib.hid (sixSet_same B7.out (.int .u64 (t.few.row : Int)) (.int .u64 (t.few.xmin : Int)) (.int .u64 (t.few.xmax : Int)) (.int .i64 t.few.pg) (.int .i64 t.few.sl) (.slice A2 t.few.data.length n2))
                  have HO7 := Lib.hid (sixSet_only va x7 (.int .u64 (t.few.row : Int)) (.int .u64 (t.few.xmin : Int)) (.int .u64 (t.few.xmax : Int)) (.int .i64 t.few.pg) (.int .i64 t.few.sl) (.slice A2 t.few.data.length n2))
                  unfold sixSet at HB7 HO7
                  refine wpAnyH_ready (rs := [9]) (by kernel_rfl) (by simp) ?_
                  refine AllReadyH.cons (o := ?_) ?_ ?_ ?_
                  rotate_left 1
                  (focus (simp only [List.getElem?_toArray, List.getElem?_cons_zero, List.getElem?_cons_succ] <;> rfl))
                  · intro K hK
                    go_simp
                    refine hK.out _ _ ?_ (fun hHeld => ?_)
                    · exact HS.out _ (HO.out.trans' HO7.out (fun k _ e => by subst e; exact L7.out))
                    clear hK K
                    (try simp only [Act.put, List.setIfInBounds_toArray, List.set_cons_zero, List.set_cons_succ])
                    replace HO := Lib.hid (HO.out.trans' HO7.out (fun k _ e => by subst e; exact L7.out))
                    replace HB6 := Lib.hid (HO7.out.get HB6.out hn67)
                    replace F1 := Lib.hid (F1.out.kept2 HO7.out B7.out)
                    replace F2 := Lib.hid (F2.out.kept2 HO7.out B7.out)
                    clear HO7 B7 z0 z1 z2 z3 z4 z5 zf
                    generalize ((((((va.setCell ⟨x7, 0, none⟩ (.int .u64 (t.few.row : Int))).setCell ⟨x7, 1, none⟩ (.int .u64 (t.few.xmin : Int))).setCell ⟨x7, 2, none⟩ (.int .u64 (t.few.xmax : Int))).setCell ⟨x7, 3, none⟩ (.int .i64 t.few.pg)).setCell ⟨x7, 4, none⟩ (.int .i64 t.few.sl)).setCell ⟨x7, 5, none⟩ (.slice A2 t.few.data.length n2)) = vb at HO HB6 HB7 F1 F2 ⊢
                    refine wpAnyH_done (by kernel_rfl) ?_ _
                    go_wp2_with fail
                    go_meet
                    exact ⟨x6, x7, A1, n1, A2, n2, rfl, rfl, TwoFew.mk HO.out HB6.out HB7.out L6.out L7.out F1.out F2.out⟩
                  exact AllReadyH.nil
                exact AllReadyH.nil
            case rest =>
              obtain ⟨x6, x7, A1, n1, A2, n2, rfl, rfl, hTF⟩ := hcut
              have HTF := Lib.hid hTF
              clear hTF HFEW HS HOP2
              have hs0w : s0 < wb.heap.size := lt_of_get HOB.out
              have HSZ : Hid (wr.heap.size = s0 ∧ s0 < wb.heap.size ∧ wb.heap.size ≤ wc.heap.size ∧ w.heap.size ≤ s0) := ⟨HWS.out, hs0w, HTF.out.only.size, hs0⟩
              have HQD : Hid (Quiet wr wc) := HQA.out.trans' HTF.out.only (fun k hk x => by have h1 := HSZ.out; omega)
              have HAL : Hid (a1 < wr.heap.size ∧ a2 < wr.heap.size) := ⟨lt_of_get HAR.out.1, lt_of_get HAR.out.2⟩
              have HPJ : Hid (PlayW w wc (fun k => (k = a1 ∨ k = a2) ∨ (s0 ≤ k ∧ k < wc.heap.size)) pb qb hs xs Hs left Hs left) := HPW.out.fresh HQD.out (fun k x => by
                have h1 := HSZ.out
                have h2 := HAL.out
                rcases x with x | x
                · exact ⟨Or.inl x, by omega⟩
                · exact ⟨Or.inr (by omega), x.2⟩)
              have HUB : Hid (∀ x ∈ t.few.data, x < 256) := few_bytes HOP.out.bytes
              have HUL : Hid (t.few.data.length ≤ 230) := by show (t.data.take 230).length ≤ 230; rw [List.length_take]; omega
              have HRD : Hid (∀ W, Turn w wc W (fun k => (k = a1 ∨ k = a2) ∨ (s0 ≤ k ∧ k < wc.heap.size)) → RoundAt W a1 a2 hs xs q two s0 dn pg sl t A' cap' x6 x7 A1 n1 A2 n2 t.few) := fun W ho => by
                have h1 := HSZ.out
                have h6 := lt_of_get HTF.out.box1
                have h7 := lt_of_get HTF.out.box2
                have n6 := HTF.out.new1
                have n7 := HTF.out.new2
                have hop := ho.get (HTF.out.only.get HOB.out (fun x => by omega)) (fun x => x.1 (Or.inr (by omega)))
                have hb6 := ho.get HTF.out.box1 (fun x => x.1 (Or.inr (by omega)))
                have hb7 := ho.get HTF.out.box2 (fun x => x.1 (Or.inr (by omega)))
                have f1 : FewIs wb.heap.size W A1 n1 t.few := ⟨owns_kept HTF.out.few1.own ho (fun k e x => x.1 (Or.inr (by have := HTF.out.few1.new k e; have := (HTF.out.few1.own.lt k e).2; omega))), HTF.out.few1.new⟩
                have f2 : FewIs wb.heap.size W A2 n2 t.few := ⟨owns_kept HTF.out.few2.own ho (fun k e x => x.1 (Or.inr (by have := HTF.out.few2.new k e; have := (HTF.out.few2.own.lt k e).2; omega))), HTF.out.few2.new⟩
                have har := (HAR.out.kept HQD.out (fun x => x) (fun x => x)).kept ho (fun x => x.1 (Or.inl (Or.inl rfl))) (fun x => x.1 (Or.inl (Or.inr rfl)))
                refine ⟨har, ?_, ?_, hop, hb6, hb7, f1.rd, f2.own, f2.rd⟩
                · rw [cell_of har.1, ← HKQ.out]; cases two <;> rfl
                · rw [cell_of har.2, ← HKQ.out]; cases two <;> rfl
              have HK1 : Hid (∀ k, (Value.slice A1 t.few.data.length n1).ownBlock = some k → (k = a1 ∨ k = a2) ∨ (s0 ≤ k ∧ k < wc.heap.size)) := fun k e => Or.inr (by have h1 := HSZ.out; have h2 := HTF.out.few1.new k e; have h3 := (HTF.out.few1.own.lt k e).2; omega)
              have HK2 : Hid (∀ k, (Value.slice A2 t.few.data.length n2).ownBlock = some k → (k = a1 ∨ k = a2) ∨ (s0 ≤ k ∧ k < wc.heap.size)) := fun k e => Or.inr (by have h1 := HSZ.out; have h2 := HTF.out.few2.new k e; have h3 := (HTF.out.few2.own.lt k e).2; omega)
              have HWFP := Lib.hid HOP.out.wf
              have HDN := Lib.hid HOP.out.lo
              have hdn := HDN.out
              have HA0 := Lib.hid (HAR.out.kept HQD.out (fun x => x) (fun x => x))
              clear HOB HTF HAQ HAC HOP HQA hs0w
              obtain ⟨r9, hr9⟩ : ∃ r9, dn % 9 = r9 := ⟨_, rfl⟩
              have ht9 : (dn : Int).tmod 9 = (r9 : Int) := by rw [Int.tmod_eq_emod_of_nonneg (by omega)]; omega
              have hw9 : IntKind.u8.wrap (r9 : Int) = (r9 : Int) := wrap8' r9 (by omega)
              have ho0 : wc.cell? ⟨s0, 0, none⟩ = some (.int .u8 (dn : Int)) := by rw [cell_of (HRD.out wc (Only.refl _ _)).op]; rfl
              obtain ⟨u, hu⟩ : ∃ u, t.few = u := ⟨_, rfl⟩
              rw [hu] at HUB HUL HRD HK1 HK2
              clear hu
              obtain ⟨zc, hzc⟩ : ∃ zc, wc.heap.size = zc := ⟨_, rfl⟩
              rw [hzc] at HPJ HRD HK1 HK2 HSZ
              have HZC := Lib.hid hzc
              clear hzc
              go_upto_block 2 with (fail)
              go_cut [15] (fun s15 wx => s15 = .bool true ∧ ∃ (Hs2 : HS) (left2 : Nat), PlayW w wx (fun k => (k = a1 ∨ k = a2) ∨ (s0 ≤ k ∧ k < zc)) pb qb hs xs Hs2 left2 Hs2 left2 ∧ ArrAt wx a1 a2 hs xs ∧ wx.heap[s0]? = some (.cells #[.int .u8 (dn : Int), .bool two, .int .i64 pg, .int .i64 sl, .int .u64 (t.row : Int), .int .u64 (t.xmin : Int), .int .u64 (t.xmax : Int), .int .i64 t.pg, .int .i64 t.sl, .slice A' t.data.length cap'] 77 (0, 0)))
              case first =>
                generalize wc = wd at HPJ HRD HQD HA0 HZC ho0 ⊢
                have hq0 : (0 : Int) ≤ (q : Int) := by omega
                have hq1 : (q : Int) < 2 := by have := HKN.out; omega
                clear HPW HAR HQ HI
                by_cases h5 : r9 = 5
                · subst h5
                  as_aux_lemma =>
                    have HSX : Hid (∀ W, Turn w wd W (fun k => (k = a1 ∨ k = a2) ∨ (s0 ≤ k ∧ k < zc)) → (fun w' => w'.cell? ⟨a1, q, none⟩ = some (.pointer (adr (hs two))) ∧ w'.cell? ⟨a2, q, none⟩ = some (.pointer (adr (xs two))) ∧ w'.cell? ⟨s0, 2, none⟩ = some (.int .i64 pg) ∧ w'.cell? ⟨s0, 3, none⟩ = some (.int .i64 sl) ∧ w'.cell? ⟨x6, 2, none⟩ = some (.int .u64 (u.xmax : Int)) ∧ w'.cell? ⟨x6, 3, none⟩ = some (.int .i64 u.pg) ∧ w'.cell? ⟨x6, 4, none⟩ = some (.int .i64 u.sl)) W) := fun W ho => by
                      have h := HRD.out W ho
                      exact ⟨h.hp, h.xp, by rw [cell_of h.op]; rfl, by rw [cell_of h.op]; rfl, by rw [cell_of h.b6]; rfl, by rw [cell_of h.b6]; rfl, by rw [cell_of h.b6]; rfl⟩
                    obtain ⟨rr, hrr⟩ : ∃ rr, nStamp (hs two).isSome (Hs two) pg sl u.xmax u.pg u.sl = rr := ⟨_, rfl⟩
                    have HA := Lib.hid ((HPJ.out.quietly (Only.refl (fun _ => False) wd).drew).stampH two pg sl u.xmax u.pg u.sl hrr)
                    have HRR := Lib.hid hrr
                    clear hrr
                    go_upto_region 31 with fail
                    refine wp_region_held_drew (S := (fun w' => w'.cell? ⟨a1, q, none⟩ = some (.pointer (adr (hs two))) ∧ w'.cell? ⟨a2, q, none⟩ = some (.pointer (adr (xs two))) ∧ w'.cell? ⟨s0, 2, none⟩ = some (.int .i64 pg) ∧ w'.cell? ⟨s0, 3, none⟩ = some (.int .i64 sl) ∧ w'.cell? ⟨x6, 2, none⟩ = some (.int .u64 (u.xmax : Int)) ∧ w'.cell? ⟨x6, 3, none⟩ = some (.int .i64 u.pg) ∧ w'.cell? ⟨x6, 4, none⟩ = some (.int .i64 u.sl))) (by kernel_rfl) (HSX.out _ ((Only.refl _ wd).drew)) (fun hHeld => ?_)
                    simp only [List.size_toArray, List.length_cons, List.length_nil, Nat.reduceAdd]
                    (refine wpAnyH_take (i := 0) (oi := ?_) (v := ?_) ?_ (by kernel_rfl) (by decide +kernel) (by decide +kernel) ?_ (Or.inl ⟨?_, ?_⟩) (by first | assumption | exact trivial) ?_; rotate_left 2; (focus (simp only [List.getElem?_toArray, List.getElem?_cons_zero, List.getElem?_cons_succ] <;> rfl)); (focus (exact fun _ _ _ h => h)); (focus rfl); (focus (intro w hSw; (try dsimp only at hSw); go_simp; (try with_reducible rfl); done)); (try simp only [Act.put, List.setIfInBounds_toArray, List.set_cons_zero, List.set_cons_succ]))
                    (refine wpAnyH_take (i := 1) (oi := ?_) (v := ?_) ?_ (by kernel_rfl) (by decide +kernel) (by decide +kernel) ?_ (Or.inl ⟨?_, ?_⟩) (by first | assumption | exact trivial) ?_; rotate_left 2; (focus (simp only [List.getElem?_toArray, List.getElem?_cons_zero, List.getElem?_cons_succ] <;> rfl)); (focus (exact fun _ _ _ h => h)); (focus rfl); (focus (intro w hSw; (try dsimp only at hSw); go_simp; (try with_reducible rfl); done)); (try simp only [Act.put, List.setIfInBounds_toArray, List.set_cons_zero, List.set_cons_succ]))
                    (refine wpAnyH_take (i := 2) (oi := ?_) (v := ?_) ?_ (by kernel_rfl) (by decide +kernel) (by decide +kernel) ?_ (Or.inl ⟨?_, ?_⟩) (by first | assumption | exact trivial) ?_; rotate_left 2; (focus (simp only [List.getElem?_toArray, List.getElem?_cons_zero, List.getElem?_cons_succ] <;> rfl)); (focus (exact fun _ _ _ h => h)); (focus rfl); (focus (intro w hSw; (try dsimp only at hSw); go_simp; (try with_reducible rfl); done)); (try simp only [Act.put, List.setIfInBounds_toArray, List.set_cons_zero, List.set_cons_succ]))
                    (refine wpAnyH_take (i := 3) (oi := ?_) (v := ?_) ?_ (by kernel_rfl) (by decide +kernel) (by decide +kernel) ?_ (Or.inl ⟨?_, ?_⟩) (by first | assumption | exact trivial) ?_; rotate_left 2; (focus (simp only [List.getElem?_toArray, List.getElem?_cons_zero, List.getElem?_cons_succ] <;> rfl)); (focus (exact fun _ _ _ h => h)); (focus rfl); (focus (intro w hSw; (try dsimp only at hSw); go_simp; (try with_reducible rfl); done)); (try simp only [Act.put, List.setIfInBounds_toArray, List.set_cons_zero, List.set_cons_succ]))
                    (refine wpAnyH_take (i := 4) (oi := ?_) (v := ?_) ?_ (by kernel_rfl) (by decide +kernel) (by decide +kernel) ?_ (Or.inl ⟨?_, ?_⟩) (by first | assumption | exact trivial) ?_; rotate_left 2; (focus (simp only [List.getElem?_toArray, List.getElem?_cons_zero, List.getElem?_cons_succ] <;> rfl)); (focus (exact fun _ _ _ h => h)); (focus rfl); (focus (intro w hSw; (try dsimp only at hSw); go_simp; (try with_reducible rfl); done)); (try simp only [Act.put, List.setIfInBounds_toArray, List.set_cons_zero, List.set_cons_succ]))
                    (refine wpAnyH_take (i := 5) (oi := ?_) (v := ?_) ?_ (by kernel_rfl) (by decide +kernel) (by decide +kernel) ?_ (Or.inl ⟨?_, ?_⟩) (by first | assumption | exact trivial) ?_; rotate_left 2; (focus (simp only [List.getElem?_toArray, List.getElem?_cons_zero, List.getElem?_cons_succ] <;> rfl)); (focus (exact fun _ _ _ h => h)); (focus rfl); (focus (intro w hSw; (try dsimp only at hSw); go_simp; (try with_reducible rfl); done)); (try simp only [Act.put, List.setIfInBounds_toArray, List.set_cons_zero, List.set_cons_succ]))
                    (refine wpAnyH_take (i := 6) (oi := ?_) (v := ?_) ?_ (by kernel_rfl) (by decide +kernel) (by decide +kernel) ?_ (Or.inl ⟨?_, ?_⟩) (by first | assumption | exact trivial) ?_; rotate_left 2; (focus (simp only [List.getElem?_toArray, List.getElem?_cons_zero, List.getElem?_cons_succ] <;> rfl)); (focus (exact fun _ _ _ h => h)); (focus rfl); (focus (intro w hSw; (try dsimp only at hSw); go_simp; (try with_reducible rfl); done)); (try simp only [Act.put, List.setIfInBounds_toArray, List.set_cons_zero, List.set_cons_succ]))
                    (refine wpAnyH_take (i := 7) (oi := ?_) (v := ?_) ?_ (by kernel_rfl) (by decide +kernel) (by decide +kernel) ?_ (Or.inl ⟨?_, ?_⟩) (by first | assumption | exact trivial) ?_; rotate_left 2; (focus (simp only [List.getElem?_toArray, List.getElem?_cons_zero, List.getElem?_cons_succ] <;> rfl)); (focus (exact fun _ _ _ h => h)); (focus rfl); (focus (intro w hSw; (try dsimp only at hSw); go_simp; (try with_reducible rfl); done)); (try simp only [Act.put, List.setIfInBounds_toArray, List.set_cons_zero, List.set_cons_succ]))
                    (refine wpAnyH_take (i := 8) (oi := ?_) (v := ?_) ?_ (by kernel_rfl) (by decide +kernel) (by decide +kernel) ?_ (Or.inl ⟨?_, ?_⟩) (by first | assumption | exact trivial) ?_; rotate_left 2; (focus (simp only [List.getElem?_toArray, List.getElem?_cons_zero, List.getElem?_cons_succ] <;> rfl)); (focus (exact fun _ _ _ h => h)); (focus rfl); (focus (intro w hSw; (try dsimp only at hSw); go_simp; (try with_reducible rfl); done)); (try simp only [Act.put, List.setIfInBounds_toArray, List.set_cons_zero, List.set_cons_succ]))
                    (refine wpAnyH_take (i := 10) (oi := ?_) (v := ?_) ?_ (by kernel_rfl) (by decide +kernel) (by decide +kernel) ?_ (Or.inl ⟨?_, ?_⟩) (by first | assumption | exact trivial) ?_; rotate_left 2; (focus (simp only [List.getElem?_toArray, List.getElem?_cons_zero, List.getElem?_cons_succ] <;> rfl)); (focus (exact fun _ _ _ h => h)); (focus rfl); (focus (intro w hSw; (try dsimp only at hSw); go_simp; (try with_reducible rfl); done)); (try simp only [Act.put, List.setIfInBounds_toArray, List.set_cons_zero, List.set_cons_succ]))
                    (refine wpAnyH_take (i := 11) (oi := ?_) (v := ?_) ?_ (by kernel_rfl) (by decide +kernel) (by decide +kernel) ?_ (Or.inl ⟨?_, ?_⟩) (by first | assumption | exact trivial) ?_; rotate_left 2; (focus (simp only [List.getElem?_toArray, List.getElem?_cons_zero, List.getElem?_cons_succ] <;> rfl)); (focus (exact fun _ _ _ h => h)); (focus rfl); (focus (intro w hSw; (try dsimp only at hSw); go_simp; (try with_reducible rfl); done)); (try simp only [Act.put, List.setIfInBounds_toArray, List.set_cons_zero, List.set_cons_succ]))
                    (refine wpAnyH_take (i := 12) (oi := ?_) (v := ?_) ?_ (by kernel_rfl) (by decide +kernel) (by decide +kernel) ?_ (Or.inl ⟨?_, ?_⟩) (by first | assumption | exact trivial) ?_; rotate_left 2; (focus (simp only [List.getElem?_toArray, List.getElem?_cons_zero, List.getElem?_cons_succ] <;> rfl)); (focus (exact fun _ _ _ h => h)); (focus rfl); (focus (intro w hSw; (try dsimp only at hSw); go_simp; (try with_reducible rfl); done)); (try simp only [Act.put, List.setIfInBounds_toArray, List.set_cons_zero, List.set_cons_succ]))
                    (refine wpAnyH_take (i := 13) (oi := ?_) (v := ?_) ?_ (by kernel_rfl) (by decide +kernel) (by decide +kernel) ?_ (Or.inl ⟨?_, ?_⟩) (by first | assumption | exact trivial) ?_; rotate_left 2; (focus (simp only [List.getElem?_toArray, List.getElem?_cons_zero, List.getElem?_cons_succ] <;> rfl)); (focus (exact fun _ _ _ h => h)); (focus rfl); (focus (intro w hSw; (try dsimp only at hSw); go_simp; (try with_reducible rfl); done)); (try simp only [Act.put, List.setIfInBounds_toArray, List.set_cons_zero, List.set_cons_succ]))
                    (refine wpAnyH_take (i := 14) (oi := ?_) (v := ?_) ?_ (by kernel_rfl) (by decide +kernel) (by decide +kernel) ?_ (Or.inl ⟨?_, ?_⟩) (by first | assumption | exact trivial) ?_; rotate_left 2; (focus (simp only [List.getElem?_toArray, List.getElem?_cons_zero, List.getElem?_cons_succ] <;> rfl)); (focus (exact fun _ _ _ h => h)); (focus rfl); (focus (intro w hSw; (try dsimp only at hSw); go_simp; (try with_reducible rfl); done)); (try simp only [Act.put, List.setIfInBounds_toArray, List.set_cons_zero, List.set_cons_succ]))
                    (refine wpAnyH_take (i := 15) (oi := ?_) (v := ?_) ?_ (by kernel_rfl) (by decide +kernel) (by decide +kernel) ?_ (Or.inl ⟨?_, ?_⟩) (by first | assumption | exact trivial) ?_; rotate_left 2; (focus (simp only [List.getElem?_toArray, List.getElem?_cons_zero, List.getElem?_cons_succ] <;> rfl)); (focus (exact fun _ _ _ h => h)); (focus rfl); (focus (intro w hSw; (try dsimp only at hSw); go_simp; (try with_reducible rfl); done)); (try simp only [Act.put, List.setIfInBounds_toArray, List.set_cons_zero, List.set_cons_succ]))
                    (refine wpAnyH_take (i := 16) (oi := ?_) (v := ?_) ?_ (by kernel_rfl) (by decide +kernel) (by decide +kernel) ?_ (Or.inl ⟨?_, ?_⟩) (by first | assumption | exact trivial) ?_; rotate_left 2; (focus (simp only [List.getElem?_toArray, List.getElem?_cons_zero, List.getElem?_cons_succ] <;> rfl)); (focus (exact fun _ _ _ h => h)); (focus rfl); (focus (intro w hSw; (try dsimp only at hSw); go_simp; (try with_reducible rfl); done)); (try simp only [Act.put, List.setIfInBounds_toArray, List.set_cons_zero, List.set_cons_succ]))
                    (refine wpAnyH_take (i := 17) (oi := ?_) (v := ?_) ?_ (by kernel_rfl) (by decide +kernel) (by decide +kernel) ?_ (Or.inl ⟨?_, ?_⟩) (by first | assumption | exact trivial) ?_; rotate_left 2; (focus (simp only [List.getElem?_toArray, List.getElem?_cons_zero, List.getElem?_cons_succ] <;> rfl)); (focus (exact fun _ _ _ h => h)); (focus rfl); (focus (intro w hSw; (try dsimp only at hSw); go_simp; (try with_reducible rfl); done)); (try simp only [Act.put, List.setIfInBounds_toArray, List.set_cons_zero, List.set_cons_succ]))
                    (refine wpAnyH_take (i := 18) (oi := ?_) (v := ?_) ?_ (by kernel_rfl) (by decide +kernel) (by decide +kernel) ?_ (Or.inl ⟨?_, ?_⟩) (by first | assumption | exact trivial) ?_; rotate_left 2; (focus (simp only [List.getElem?_toArray, List.getElem?_cons_zero, List.getElem?_cons_succ] <;> rfl)); (focus (exact fun _ _ _ h => h)); (focus rfl); (focus (intro w hSw; (try dsimp only at hSw); go_simp; (try with_reducible rfl); done)); (try simp only [Act.put, List.setIfInBounds_toArray, List.set_cons_zero, List.set_cons_succ]))
                    refine wpAnyH_ready (rs := [9]) (by kernel_rfl) (by simp) ?_
                    refine AllReadyH.cons (o := ?_) ?_ ?_ AllReadyH.nil
                    rotate_left 1
                    (focus (simp only [List.getElem?_toArray, List.getElem?_cons_zero, List.getElem?_cons_succ] <;> rfl))
                    intro K hK
                    go_simp
                    go_at_call 50
                    refine (HA.out).mono ?_
                    rintro e w6 ⟨rfl, ht6, hp6⟩
                    have HT6 := Lib.hid (Only.trans (Only.refl _ wd).drew ht6)
                    have HB := Lib.hid (hp6.stampX two pg sl u.xmax u.pg u.sl HRR.out)
                    clear hp6 ht6 HA
                    dsimp only
                    refine hK.out _ _ ?_ (fun hHeld => ?_)
                    · exact HSX.out _ HT6.out
                    clear hK K
                    (try simp only [Act.put, List.setIfInBounds_toArray, List.set_cons_zero, List.set_cons_succ])
                    refine wpAnyH_ready (rs := [19]) (by kernel_rfl) (by simp) ?_
                    refine AllReadyH.cons (o := ?_) ?_ ?_ AllReadyH.nil
                    rotate_left 1
                    (focus (simp only [List.getElem?_toArray, List.getElem?_cons_zero, List.getElem?_cons_succ] <;> rfl))
                    intro K hK
                    go_simp
                    go_at_call 53
                    refine (HB.out).mono ?_
                    rintro e w7 ⟨rfl, ht7, hp7⟩
                    have HT7 := Lib.hid (HT6.out.trans ht7)
                    have HP7 := Lib.hid hp7
                    clear hp7 ht7 HB
                    dsimp only
                    refine hK.out _ _ ?_ (fun hHeld => ?_)
                    · exact HSX.out _ HT7.out
                    clear hK K
                    (try simp only [Act.put, List.setIfInBounds_toArray, List.set_cons_zero, List.set_cons_succ])
                    (refine wpAnyH_take (i := 20) (oi := ?_) (v := ?_) ?_ (by kernel_rfl) (by decide +kernel) (by decide +kernel) ?_ (Or.inl ⟨?_, ?_⟩) (by first | assumption | exact trivial) ?_; rotate_left 2; (focus (simp only [List.getElem?_toArray, List.getElem?_cons_zero, List.getElem?_cons_succ] <;> rfl)); (focus (exact fun _ _ _ h => h)); (focus rfl); (focus (intro w hSw; (try dsimp only at hSw); go_simp; (try with_reducible rfl); done)); (try simp only [Act.put, List.setIfInBounds_toArray, List.set_cons_zero, List.set_cons_succ]))
                    refine wpAnyH_ready (rs := [21]) (by kernel_rfl) (by simp) ?_
                    refine AllReadyH.cons (o := ?_) ?_ ?_ AllReadyH.nil
                    rotate_left 1
                    (focus (simp only [List.getElem?_toArray, List.getElem?_cons_zero, List.getElem?_cons_succ] <;> rfl))
                    intro K hK
                    go_simp
                    refine hK.out _ _ ?_ (fun hHeld => ?_)
                    · exact HSX.out _ HT7.out
                    clear hK K
                    (try simp only [Act.put, List.setIfInBounds_toArray, List.set_cons_zero, List.set_cons_succ])
                    refine wpAnyH_done (by kernel_rfl) ?_ _
                    clear HSX hHeld
                    go_wp2_with fail
                    go_meet
                    exact ⟨rfl, upd Hs two rr.2, left, HP7.out, (HRD.out _ HT7.out).arr, (HRD.out _ HT7.out).op⟩
                · have d5 : ((r9 : Int) == 5) = false := beq_eq_false_iff_ne.2 (by omega)
                  by_cases h6 : r9 = 6
                  · subst h6
                    clear d5
                    as_aux_lemma =>
                      have HSX : Hid (∀ W, Turn w wd W (fun k => (k = a1 ∨ k = a2) ∨ (s0 ≤ k ∧ k < zc)) → (fun w' => w'.cell? ⟨a1, q, none⟩ = some (.pointer (adr (hs two))) ∧ w'.cell? ⟨a2, q, none⟩ = some (.pointer (adr (xs two))) ∧ w'.cell? ⟨s0, 2, none⟩ = some (.int .i64 pg) ∧ w'.cell? ⟨s0, 3, none⟩ = some (.int .i64 sl)) W) := fun W ho => by
                        have h := HRD.out W ho
                        exact ⟨h.hp, h.xp, by rw [cell_of h.op]; rfl, by rw [cell_of h.op]; rfl⟩
                      obtain ⟨rr, hrr⟩ : ∃ rr, nFree (hs two).isSome (Hs two) pg sl = rr := ⟨_, rfl⟩
                      have HA := Lib.hid ((HPJ.out.quietly (Only.refl (fun _ => False) wd).drew).freeH two pg sl hrr)
                      have HRR := Lib.hid hrr
                      clear hrr
                      go_upto_region 34 with fail
                      refine wp_region_held_drew (S := (fun w' => w'.cell? ⟨a1, q, none⟩ = some (.pointer (adr (hs two))) ∧ w'.cell? ⟨a2, q, none⟩ = some (.pointer (adr (xs two))) ∧ w'.cell? ⟨s0, 2, none⟩ = some (.int .i64 pg) ∧ w'.cell? ⟨s0, 3, none⟩ = some (.int .i64 sl))) (by kernel_rfl) (HSX.out _ ((Only.refl _ wd).drew)) (fun hHeld => ?_)
                      simp only [List.size_toArray, List.length_cons, List.length_nil, Nat.reduceAdd]
                      (refine wpAnyH_take (i := 0) (oi := ?_) (v := ?_) ?_ (by kernel_rfl) (by decide +kernel) (by decide +kernel) ?_ (Or.inl ⟨?_, ?_⟩) (by first | assumption | exact trivial) ?_; rotate_left 2; (focus (simp only [List.getElem?_toArray, List.getElem?_cons_zero, List.getElem?_cons_succ] <;> rfl)); (focus (exact fun _ _ _ h => h)); (focus rfl); (focus (intro w hSw; (try dsimp only at hSw); go_simp; (try with_reducible rfl); done)); (try simp only [Act.put, List.setIfInBounds_toArray, List.set_cons_zero, List.set_cons_succ]))
                      (refine wpAnyH_take (i := 1) (oi := ?_) (v := ?_) ?_ (by kernel_rfl) (by decide +kernel) (by decide +kernel) ?_ (Or.inl ⟨?_, ?_⟩) (by first | assumption | exact trivial) ?_; rotate_left 2; (focus (simp only [List.getElem?_toArray, List.getElem?_cons_zero, List.getElem?_cons_succ] <;> rfl)); (focus (exact fun _ _ _ h => h)); (focus rfl); (focus (intro w hSw; (try dsimp only at hSw); go_simp; (try with_reducible rfl); done)); (try simp only [Act.put, List.setIfInBounds_toArray, List.set_cons_zero, List.set_cons_succ]))
                      (refine wpAnyH_take (i := 2) (oi := ?_) (v := ?_) ?_ (by kernel_rfl) (by decide +kernel) (by decide +kernel) ?_ (Or.inl ⟨?_, ?_⟩) (by first | assumption | exact trivial) ?_; rotate_left 2; (focus (simp only [List.getElem?_toArray, List.getElem?_cons_zero, List.getElem?_cons_succ] <;> rfl)); (focus (exact fun _ _ _ h => h)); (focus rfl); (focus (intro w hSw; (try dsimp only at hSw); go_simp; (try with_reducible rfl); done)); (try simp only [Act.put, List.setIfInBounds_toArray, List.set_cons_zero, List.set_cons_succ]))
                      (refine wpAnyH_take (i := 3) (oi := ?_) (v := ?_) ?_ (by kernel_rfl) (by decide +kernel) (by decide +kernel) ?_ (Or.inl ⟨?_, ?_⟩) (by first | assumption | exact trivial) ?_; rotate_left 2; (focus (simp only [List.getElem?_toArray, List.getElem?_cons_zero, List.getElem?_cons_succ] <;> rfl)); (focus (exact fun _ _ _ h => h)); (focus rfl); (focus (intro w hSw; (try dsimp only at hSw); go_simp; (try with_reducible rfl); done)); (try simp only [Act.put, List.setIfInBounds_toArray, List.set_cons_zero, List.set_cons_succ]))
                      (refine wpAnyH_take (i := 4) (oi := ?_) (v := ?_) ?_ (by kernel_rfl) (by decide +kernel) (by decide +kernel) ?_ (Or.inl ⟨?_, ?_⟩) (by first | assumption | exact trivial) ?_; rotate_left 2; (focus (simp only [List.getElem?_toArray, List.getElem?_cons_zero, List.getElem?_cons_succ] <;> rfl)); (focus (exact fun _ _ _ h => h)); (focus rfl); (focus (intro w hSw; (try dsimp only at hSw); go_simp; (try with_reducible rfl); done)); (try simp only [Act.put, List.setIfInBounds_toArray, List.set_cons_zero, List.set_cons_succ]))
                      (refine wpAnyH_take (i := 6) (oi := ?_) (v := ?_) ?_ (by kernel_rfl) (by decide +kernel) (by decide +kernel) ?_ (Or.inl ⟨?_, ?_⟩) (by first | assumption | exact trivial) ?_; rotate_left 2; (focus (simp only [List.getElem?_toArray, List.getElem?_cons_zero, List.getElem?_cons_succ] <;> rfl)); (focus (exact fun _ _ _ h => h)); (focus rfl); (focus (intro w hSw; (try dsimp only at hSw); go_simp; (try with_reducible rfl); done)); (try simp only [Act.put, List.setIfInBounds_toArray, List.set_cons_zero, List.set_cons_succ]))
                      (refine wpAnyH_take (i := 7) (oi := ?_) (v := ?_) ?_ (by kernel_rfl) (by decide +kernel) (by decide +kernel) ?_ (Or.inl ⟨?_, ?_⟩) (by first | assumption | exact trivial) ?_; rotate_left 2; (focus (simp only [List.getElem?_toArray, List.getElem?_cons_zero, List.getElem?_cons_succ] <;> rfl)); (focus (exact fun _ _ _ h => h)); (focus rfl); (focus (intro w hSw; (try dsimp only at hSw); go_simp; (try with_reducible rfl); done)); (try simp only [Act.put, List.setIfInBounds_toArray, List.set_cons_zero, List.set_cons_succ]))
                      (refine wpAnyH_take (i := 8) (oi := ?_) (v := ?_) ?_ (by kernel_rfl) (by decide +kernel) (by decide +kernel) ?_ (Or.inl ⟨?_, ?_⟩) (by first | assumption | exact trivial) ?_; rotate_left 2; (focus (simp only [List.getElem?_toArray, List.getElem?_cons_zero, List.getElem?_cons_succ] <;> rfl)); (focus (exact fun _ _ _ h => h)); (focus rfl); (focus (intro w hSw; (try dsimp only at hSw); go_simp; (try with_reducible rfl); done)); (try simp only [Act.put, List.setIfInBounds_toArray, List.set_cons_zero, List.set_cons_succ]))
                      (refine wpAnyH_take (i := 9) (oi := ?_) (v := ?_) ?_ (by kernel_rfl) (by decide +kernel) (by decide +kernel) ?_ (Or.inl ⟨?_, ?_⟩) (by first | assumption | exact trivial) ?_; rotate_left 2; (focus (simp only [List.getElem?_toArray, List.getElem?_cons_zero, List.getElem?_cons_succ] <;> rfl)); (focus (exact fun _ _ _ h => h)); (focus rfl); (focus (intro w hSw; (try dsimp only at hSw); go_simp; (try with_reducible rfl); done)); (try simp only [Act.put, List.setIfInBounds_toArray, List.set_cons_zero, List.set_cons_succ]))
                      (refine wpAnyH_take (i := 10) (oi := ?_) (v := ?_) ?_ (by kernel_rfl) (by decide +kernel) (by decide +kernel) ?_ (Or.inl ⟨?_, ?_⟩) (by first | assumption | exact trivial) ?_; rotate_left 2; (focus (simp only [List.getElem?_toArray, List.getElem?_cons_zero, List.getElem?_cons_succ] <;> rfl)); (focus (exact fun _ _ _ h => h)); (focus rfl); (focus (intro w hSw; (try dsimp only at hSw); go_simp; (try with_reducible rfl); done)); (try simp only [Act.put, List.setIfInBounds_toArray, List.set_cons_zero, List.set_cons_succ]))
                      refine wpAnyH_ready (rs := [5]) (by kernel_rfl) (by simp) ?_
                      refine AllReadyH.cons (o := ?_) ?_ ?_ AllReadyH.nil
                      rotate_left 1
                      (focus (simp only [List.getElem?_toArray, List.getElem?_cons_zero, List.getElem?_cons_succ] <;> rfl))
                      intro K hK
                      go_simp
                      go_at_call 47
                      refine (HA.out).mono ?_
                      rintro e w6 ⟨rfl, ht6, hp6⟩
                      have HT6 := Lib.hid (Only.trans (Only.refl _ wd).drew ht6)
                      have HB := Lib.hid (hp6.freeX two pg sl HRR.out)
                      clear hp6 ht6 HA
                      dsimp only
                      refine hK.out _ _ ?_ (fun hHeld => ?_)
                      · exact HSX.out _ HT6.out
                      clear hK K
                      (try simp only [Act.put, List.setIfInBounds_toArray, List.set_cons_zero, List.set_cons_succ])
                      refine wpAnyH_ready (rs := [11]) (by kernel_rfl) (by simp) ?_
                      refine AllReadyH.cons (o := ?_) ?_ ?_ AllReadyH.nil
                      rotate_left 1
                      (focus (simp only [List.getElem?_toArray, List.getElem?_cons_zero, List.getElem?_cons_succ] <;> rfl))
                      intro K hK
                      go_simp
                      go_at_call 54
                      refine (HB.out).mono ?_
                      rintro e w7 ⟨rfl, ht7, hp7⟩
                      have HT7 := Lib.hid (HT6.out.trans ht7)
                      have HP7 := Lib.hid hp7
                      clear hp7 ht7 HB
                      dsimp only
                      refine hK.out _ _ ?_ (fun hHeld => ?_)
                      · exact HSX.out _ HT7.out
                      clear hK K
                      (try simp only [Act.put, List.setIfInBounds_toArray, List.set_cons_zero, List.set_cons_succ])
                      (refine wpAnyH_take (i := 12) (oi := ?_) (v := ?_) ?_ (by kernel_rfl) (by decide +kernel) (by decide +kernel) ?_ (Or.inl ⟨?_, ?_⟩) (by first | assumption | exact trivial) ?_; rotate_left 2; (focus (simp only [List.getElem?_toArray, List.getElem?_cons_zero, List.getElem?_cons_succ] <;> rfl)); (focus (exact fun _ _ _ h => h)); (focus rfl); (focus (intro w hSw; (try dsimp only at hSw); go_simp; (try with_reducible rfl); done)); (try simp only [Act.put, List.setIfInBounds_toArray, List.set_cons_zero, List.set_cons_succ]))
                      refine wpAnyH_ready (rs := [13]) (by kernel_rfl) (by simp) ?_
                      refine AllReadyH.cons (o := ?_) ?_ ?_ AllReadyH.nil
                      rotate_left 1
                      (focus (simp only [List.getElem?_toArray, List.getElem?_cons_zero, List.getElem?_cons_succ] <;> rfl))
                      intro K hK
                      go_simp
                      refine hK.out _ _ ?_ (fun hHeld => ?_)
                      · exact HSX.out _ HT7.out
                      clear hK K
                      (try simp only [Act.put, List.setIfInBounds_toArray, List.set_cons_zero, List.set_cons_succ])
                      refine wpAnyH_done (by kernel_rfl) ?_ _
                      clear HSX hHeld
                      go_wp2_with fail
                      go_meet
                      exact ⟨rfl, upd Hs two rr.2, left, HP7.out, (HRD.out _ HT7.out).arr, (HRD.out _ HT7.out).op⟩
                  · have d6 : ((r9 : Int) == 6) = false := beq_eq_false_iff_ne.2 (by omega)
                    by_cases h7 : r9 = 7
                    · subst h7
                      clear d5 d6
                      as_aux_lemma =>
                        have HSX : Hid (∀ W, Turn w wd W (fun k => (k = a1 ∨ k = a2) ∨ (s0 ≤ k ∧ k < zc)) → (fun w' => w'.cell? ⟨a1, q, none⟩ = some (.pointer (adr (hs two))) ∧ w'.cell? ⟨a2, q, none⟩ = some (.pointer (adr (xs two))) ∧ w'.cell? ⟨s0, 2, none⟩ = some (.int .i64 pg) ∧ w'.cell? ⟨s0, 3, none⟩ = some (.int .i64 sl)) W) := fun W ho => by
                          have h := HRD.out W ho
                          exact ⟨h.hp, h.xp, by rw [cell_of h.op]; rfl, by rw [cell_of h.op]; rfl⟩
                        obtain ⟨rr, hrr⟩ : ∃ rr, nFree (hs two).isSome (Hs two) pg sl = rr := ⟨_, rfl⟩
                        have HA := Lib.hid ((HPJ.out.quietly (Only.refl (fun _ => False) wd).drew).freeH two pg sl hrr)
                        have HRR := Lib.hid hrr
                        clear hrr
                        go_upto_region 34 with fail
                        refine wp_region_held_drew (S := (fun w' => w'.cell? ⟨a1, q, none⟩ = some (.pointer (adr (hs two))) ∧ w'.cell? ⟨a2, q, none⟩ = some (.pointer (adr (xs two))) ∧ w'.cell? ⟨s0, 2, none⟩ = some (.int .i64 pg) ∧ w'.cell? ⟨s0, 3, none⟩ = some (.int .i64 sl))) (by kernel_rfl) (HSX.out _ ((Only.refl _ wd).drew)) (fun hHeld => ?_)
                        simp only [List.size_toArray, List.length_cons, List.length_nil, Nat.reduceAdd]
                        (refine wpAnyH_take (i := 0) (oi := ?_) (v := ?_) ?_ (by kernel_rfl) (by decide +kernel) (by decide +kernel) ?_ (Or.inl ⟨?_, ?_⟩) (by first | assumption | exact trivial) ?_; rotate_left 2; (focus (simp only [List.getElem?_toArray, List.getElem?_cons_zero, List.getElem?_cons_succ] <;> rfl)); (focus (exact fun _ _ _ h => h)); (focus rfl); (focus (intro w hSw; (try dsimp only at hSw); go_simp; (try with_reducible rfl); done)); (try simp only [Act.put, List.setIfInBounds_toArray, List.set_cons_zero, List.set_cons_succ]))
                        (refine wpAnyH_take (i := 1) (oi := ?_) (v := ?_) ?_ (by kernel_rfl) (by decide +kernel) (by decide +kernel) ?_ (Or.inl ⟨?_, ?_⟩) (by first | assumption | exact trivial) ?_; rotate_left 2; (focus (simp only [List.getElem?_toArray, List.getElem?_cons_zero, List.getElem?_cons_succ] <;> rfl)); (focus (exact fun _ _ _ h => h)); (focus rfl); (focus (intro w hSw; (try dsimp only at hSw); go_simp; (try with_reducible rfl); done)); (try simp only [Act.put, List.setIfInBounds_toArray, List.set_cons_zero, List.set_cons_succ]))
                        (refine wpAnyH_take (i := 2) (oi := ?_) (v := ?_) ?_ (by kernel_rfl) (by decide +kernel) (by decide +kernel) ?_ (Or.inl ⟨?_, ?_⟩) (by first | assumption | exact trivial) ?_; rotate_left 2; (focus (simp only [List.getElem?_toArray, List.getElem?_cons_zero, List.getElem?_cons_succ] <;> rfl)); (focus (exact fun _ _ _ h => h)); (focus rfl); (focus (intro w hSw; (try dsimp only at hSw); go_simp; (try with_reducible rfl); done)); (try simp only [Act.put, List.setIfInBounds_toArray, List.set_cons_zero, List.set_cons_succ]))
                        (refine wpAnyH_take (i := 3) (oi := ?_) (v := ?_) ?_ (by kernel_rfl) (by decide +kernel) (by decide +kernel) ?_ (Or.inl ⟨?_, ?_⟩) (by first | assumption | exact trivial) ?_; rotate_left 2; (focus (simp only [List.getElem?_toArray, List.getElem?_cons_zero, List.getElem?_cons_succ] <;> rfl)); (focus (exact fun _ _ _ h => h)); (focus rfl); (focus (intro w hSw; (try dsimp only at hSw); go_simp; (try with_reducible rfl); done)); (try simp only [Act.put, List.setIfInBounds_toArray, List.set_cons_zero, List.set_cons_succ]))
                        (refine wpAnyH_take (i := 4) (oi := ?_) (v := ?_) ?_ (by kernel_rfl) (by decide +kernel) (by decide +kernel) ?_ (Or.inl ⟨?_, ?_⟩) (by first | assumption | exact trivial) ?_; rotate_left 2; (focus (simp only [List.getElem?_toArray, List.getElem?_cons_zero, List.getElem?_cons_succ] <;> rfl)); (focus (exact fun _ _ _ h => h)); (focus rfl); (focus (intro w hSw; (try dsimp only at hSw); go_simp; (try with_reducible rfl); done)); (try simp only [Act.put, List.setIfInBounds_toArray, List.set_cons_zero, List.set_cons_succ]))
                        (refine wpAnyH_take (i := 6) (oi := ?_) (v := ?_) ?_ (by kernel_rfl) (by decide +kernel) (by decide +kernel) ?_ (Or.inl ⟨?_, ?_⟩) (by first | assumption | exact trivial) ?_; rotate_left 2; (focus (simp only [List.getElem?_toArray, List.getElem?_cons_zero, List.getElem?_cons_succ] <;> rfl)); (focus (exact fun _ _ _ h => h)); (focus rfl); (focus (intro w hSw; (try dsimp only at hSw); go_simp; (try with_reducible rfl); done)); (try simp only [Act.put, List.setIfInBounds_toArray, List.set_cons_zero, List.set_cons_succ]))
                        (refine wpAnyH_take (i := 7) (oi := ?_) (v := ?_) ?_ (by kernel_rfl) (by decide +kernel) (by decide +kernel) ?_ (Or.inl ⟨?_, ?_⟩) (by first | assumption | exact trivial) ?_; rotate_left 2; (focus (simp only [List.getElem?_toArray, List.getElem?_cons_zero, List.getElem?_cons_succ] <;> rfl)); (focus (exact fun _ _ _ h => h)); (focus rfl); (focus (intro w hSw; (try dsimp only at hSw); go_simp; (try with_reducible rfl); done)); (try simp only [Act.put, List.setIfInBounds_toArray, List.set_cons_zero, List.set_cons_succ]))
                        (refine wpAnyH_take (i := 8) (oi := ?_) (v := ?_) ?_ (by kernel_rfl) (by decide +kernel) (by decide +kernel) ?_ (Or.inl ⟨?_, ?_⟩) (by first | assumption | exact trivial) ?_; rotate_left 2; (focus (simp only [List.getElem?_toArray, List.getElem?_cons_zero, List.getElem?_cons_succ] <;> rfl)); (focus (exact fun _ _ _ h => h)); (focus rfl); (focus (intro w hSw; (try dsimp only at hSw); go_simp; (try with_reducible rfl); done)); (try simp only [Act.put, List.setIfInBounds_toArray, List.set_cons_zero, List.set_cons_succ]))
                        (refine wpAnyH_take (i := 9) (oi := ?_) (v := ?_) ?_ (by kernel_rfl) (by decide +kernel) (by decide +kernel) ?_ (Or.inl ⟨?_, ?_⟩) (by first | assumption | exact trivial) ?_; rotate_left 2; (focus (simp only [List.getElem?_toArray, List.getElem?_cons_zero, List.getElem?_cons_succ] <;> rfl)); (focus (exact fun _ _ _ h => h)); (focus rfl); (focus (intro w hSw; (try dsimp only at hSw); go_simp; (try with_reducible rfl); done)); (try simp only [Act.put, List.setIfInBounds_toArray, List.set_cons_zero, List.set_cons_succ]))
                        (refine wpAnyH_take (i := 10) (oi := ?_) (v := ?_) ?_ (by kernel_rfl) (by decide +kernel) (by decide +kernel) ?_ (Or.inl ⟨?_, ?_⟩) (by first | assumption | exact trivial) ?_; rotate_left 2; (focus (simp only [List.getElem?_toArray, List.getElem?_cons_zero, List.getElem?_cons_succ] <;> rfl)); (focus (exact fun _ _ _ h => h)); (focus rfl); (focus (intro w hSw; (try dsimp only at hSw); go_simp; (try with_reducible rfl); done)); (try simp only [Act.put, List.setIfInBounds_toArray, List.set_cons_zero, List.set_cons_succ]))
                        refine wpAnyH_ready (rs := [5]) (by kernel_rfl) (by simp) ?_
                        refine AllReadyH.cons (o := ?_) ?_ ?_ AllReadyH.nil
                        rotate_left 1
                        (focus (simp only [List.getElem?_toArray, List.getElem?_cons_zero, List.getElem?_cons_succ] <;> rfl))
                        intro K hK
                        go_simp
                        go_at_call 47
                        refine (HA.out).mono ?_
                        rintro e w6 ⟨rfl, ht6, hp6⟩
                        have HT6 := Lib.hid (Only.trans (Only.refl _ wd).drew ht6)
                        have HB := Lib.hid (hp6.freeX two pg sl HRR.out)
                        clear hp6 ht6 HA
                        dsimp only
                        refine hK.out _ _ ?_ (fun hHeld => ?_)
                        · exact HSX.out _ HT6.out
                        clear hK K
                        (try simp only [Act.put, List.setIfInBounds_toArray, List.set_cons_zero, List.set_cons_succ])
                        refine wpAnyH_ready (rs := [11]) (by kernel_rfl) (by simp) ?_
                        refine AllReadyH.cons (o := ?_) ?_ ?_ AllReadyH.nil
                        rotate_left 1
                        (focus (simp only [List.getElem?_toArray, List.getElem?_cons_zero, List.getElem?_cons_succ] <;> rfl))
                        intro K hK
                        go_simp
                        go_at_call 54
                        refine (HB.out).mono ?_
                        rintro e w7 ⟨rfl, ht7, hp7⟩
                        have HT7 := Lib.hid (HT6.out.trans ht7)
                        have HP7 := Lib.hid hp7
                        clear hp7 ht7 HB
                        dsimp only
                        refine hK.out _ _ ?_ (fun hHeld => ?_)
                        · exact HSX.out _ HT7.out
                        clear hK K
                        (try simp only [Act.put, List.setIfInBounds_toArray, List.set_cons_zero, List.set_cons_succ])
                        (refine wpAnyH_take (i := 12) (oi := ?_) (v := ?_) ?_ (by kernel_rfl) (by decide +kernel) (by decide +kernel) ?_ (Or.inl ⟨?_, ?_⟩) (by first | assumption | exact trivial) ?_; rotate_left 2; (focus (simp only [List.getElem?_toArray, List.getElem?_cons_zero, List.getElem?_cons_succ] <;> rfl)); (focus (exact fun _ _ _ h => h)); (focus rfl); (focus (intro w hSw; (try dsimp only at hSw); go_simp; (try with_reducible rfl); done)); (try simp only [Act.put, List.setIfInBounds_toArray, List.set_cons_zero, List.set_cons_succ]))
                        refine wpAnyH_ready (rs := [13]) (by kernel_rfl) (by simp) ?_
                        refine AllReadyH.cons (o := ?_) ?_ ?_ AllReadyH.nil
                        rotate_left 1
                        (focus (simp only [List.getElem?_toArray, List.getElem?_cons_zero, List.getElem?_cons_succ] <;> rfl))
                        intro K hK
                        go_simp
                        refine hK.out _ _ ?_ (fun hHeld => ?_)
                        · exact HSX.out _ HT7.out
                        clear hK K
                        (try simp only [Act.put, List.setIfInBounds_toArray, List.set_cons_zero, List.set_cons_succ])
                        refine wpAnyH_done (by kernel_rfl) ?_ _
                        clear HSX hHeld
                        go_wp2_with fail
                        go_meet
                        exact ⟨rfl, upd Hs two rr.2, left, HP7.out, (HRD.out _ HT7.out).arr, (HRD.out _ HT7.out).op⟩
                    · have d7 : ((r9 : Int) == 7) = false := beq_eq_false_iff_ne.2 (by omega)
                      by_cases h8 : r9 = 8
                      · subst h8
                        clear d5 d6 d7
                        as_aux_lemma =>
                          have HSX : Hid (∀ W, Turn w wd W (fun k => (k = a1 ∨ k = a2) ∨ (s0 ≤ k ∧ k < zc)) → (fun w' => w'.cell? ⟨a1, q, none⟩ = some (.pointer (adr (hs two))) ∧ w'.cell? ⟨a2, q, none⟩ = some (.pointer (adr (xs two)))) W) := fun W ho => ⟨(HRD.out W ho).hp, (HRD.out W ho).xp⟩
                          obtain ⟨rr, hrr⟩ : ∃ rr, nDrop (hs two).isSome (Hs two) left = rr := ⟨_, rfl⟩
                          have HA := Lib.hid ((HPJ.out.quietly (Only.refl (fun _ => False) wd).drew).dropH two hrr)
                          have HRR := Lib.hid hrr
                          clear hrr
                          go_upto_region 36 with fail
                          refine wp_region_held_drew (S := (fun w' => w'.cell? ⟨a1, q, none⟩ = some (.pointer (adr (hs two))) ∧ w'.cell? ⟨a2, q, none⟩ = some (.pointer (adr (xs two))))) (by kernel_rfl) (HSX.out _ ((Only.refl _ wd).drew)) (fun hHeld => ?_)
                          simp only [List.size_toArray, List.length_cons, List.length_nil, Nat.reduceAdd]
                          (refine wpAnyH_take (i := 0) (oi := ?_) (v := ?_) ?_ (by kernel_rfl) (by decide +kernel) (by decide +kernel) ?_ (Or.inl ⟨?_, ?_⟩) (by first | assumption | exact trivial) ?_; rotate_left 2; (focus (simp only [List.getElem?_toArray, List.getElem?_cons_zero, List.getElem?_cons_succ] <;> rfl)); (focus (exact fun _ _ _ h => h)); (focus rfl); (focus (intro w hSw; (try dsimp only at hSw); go_simp; (try with_reducible rfl); done)); (try simp only [Act.put, List.setIfInBounds_toArray, List.set_cons_zero, List.set_cons_succ]))
                          (refine wpAnyH_take (i := 1) (oi := ?_) (v := ?_) ?_ (by kernel_rfl) (by decide +kernel) (by decide +kernel) ?_ (Or.inl ⟨?_, ?_⟩) (by first | assumption | exact trivial) ?_; rotate_left 2; (focus (simp only [List.getElem?_toArray, List.getElem?_cons_zero, List.getElem?_cons_succ] <;> rfl)); (focus (exact fun _ _ _ h => h)); (focus rfl); (focus (intro w hSw; (try dsimp only at hSw); go_simp; (try with_reducible rfl); done)); (try simp only [Act.put, List.setIfInBounds_toArray, List.set_cons_zero, List.set_cons_succ]))
                          (refine wpAnyH_take (i := 2) (oi := ?_) (v := ?_) ?_ (by kernel_rfl) (by decide +kernel) (by decide +kernel) ?_ (Or.inl ⟨?_, ?_⟩) (by first | assumption | exact trivial) ?_; rotate_left 2; (focus (simp only [List.getElem?_toArray, List.getElem?_cons_zero, List.getElem?_cons_succ] <;> rfl)); (focus (exact fun _ _ _ h => h)); (focus rfl); (focus (intro w hSw; (try dsimp only at hSw); go_simp; (try with_reducible rfl); done)); (try simp only [Act.put, List.setIfInBounds_toArray, List.set_cons_zero, List.set_cons_succ]))
                          (refine wpAnyH_take (i := 4) (oi := ?_) (v := ?_) ?_ (by kernel_rfl) (by decide +kernel) (by decide +kernel) ?_ (Or.inl ⟨?_, ?_⟩) (by first | assumption | exact trivial) ?_; rotate_left 2; (focus (simp only [List.getElem?_toArray, List.getElem?_cons_zero, List.getElem?_cons_succ] <;> rfl)); (focus (exact fun _ _ _ h => h)); (focus rfl); (focus (intro w hSw; (try dsimp only at hSw); go_simp; (try with_reducible rfl); done)); (try simp only [Act.put, List.setIfInBounds_toArray, List.set_cons_zero, List.set_cons_succ]))
                          (refine wpAnyH_take (i := 5) (oi := ?_) (v := ?_) ?_ (by kernel_rfl) (by decide +kernel) (by decide +kernel) ?_ (Or.inl ⟨?_, ?_⟩) (by first | assumption | exact trivial) ?_; rotate_left 2; (focus (simp only [List.getElem?_toArray, List.getElem?_cons_zero, List.getElem?_cons_succ] <;> rfl)); (focus (exact fun _ _ _ h => h)); (focus rfl); (focus (intro w hSw; (try dsimp only at hSw); go_simp; (try with_reducible rfl); done)); (try simp only [Act.put, List.setIfInBounds_toArray, List.set_cons_zero, List.set_cons_succ]))
                          (refine wpAnyH_take (i := 6) (oi := ?_) (v := ?_) ?_ (by kernel_rfl) (by decide +kernel) (by decide +kernel) ?_ (Or.inl ⟨?_, ?_⟩) (by first | assumption | exact trivial) ?_; rotate_left 2; (focus (simp only [List.getElem?_toArray, List.getElem?_cons_zero, List.getElem?_cons_succ] <;> rfl)); (focus (exact fun _ _ _ h => h)); (focus rfl); (focus (intro w hSw; (try dsimp only at hSw); go_simp; (try with_reducible rfl); done)); (try simp only [Act.put, List.setIfInBounds_toArray, List.set_cons_zero, List.set_cons_succ]))
                          refine wpAnyH_ready (rs := [3]) (by kernel_rfl) (by simp) ?_
                          refine AllReadyH.cons (o := ?_) ?_ ?_ AllReadyH.nil
                          rotate_left 1
                          (focus (simp only [List.getElem?_toArray, List.getElem?_cons_zero, List.getElem?_cons_succ] <;> rfl))
                          intro K hK
                          go_simp
                          go_at_call 42
                          refine (HA.out).mono ?_
                          rintro e w6 ⟨rfl, ht6, hp6⟩
                          have HT6 := Lib.hid (Only.trans (Only.refl _ wd).drew ht6)
                          have HB := Lib.hid (hp6.dropX two HRR.out)
                          clear hp6 ht6 HA
                          dsimp only
                          refine hK.out _ _ ?_ (fun hHeld => ?_)
                          · exact HSX.out _ HT6.out
                          clear hK K
                          (try simp only [Act.put, List.setIfInBounds_toArray, List.set_cons_zero, List.set_cons_succ])
                          refine wpAnyH_ready (rs := [7]) (by kernel_rfl) (by simp) ?_
                          refine AllReadyH.cons (o := ?_) ?_ ?_ AllReadyH.nil
                          rotate_left 1
                          (focus (simp only [List.getElem?_toArray, List.getElem?_cons_zero, List.getElem?_cons_succ] <;> rfl))
                          intro K hK
                          go_simp
                          go_at_call 55
                          refine (HB.out).mono ?_
                          rintro e w7 ⟨rfl, ht7, hp7⟩
                          have HT7 := Lib.hid (HT6.out.trans ht7)
                          have HP7 := Lib.hid hp7
                          clear hp7 ht7 HB
                          dsimp only
                          refine hK.out _ _ ?_ (fun hHeld => ?_)
                          · exact HSX.out _ HT7.out
                          clear hK K
                          (try simp only [Act.put, List.setIfInBounds_toArray, List.set_cons_zero, List.set_cons_succ])
                          (refine wpAnyH_take (i := 8) (oi := ?_) (v := ?_) ?_ (by kernel_rfl) (by decide +kernel) (by decide +kernel) ?_ (Or.inl ⟨?_, ?_⟩) (by first | assumption | exact trivial) ?_; rotate_left 2; (focus (simp only [List.getElem?_toArray, List.getElem?_cons_zero, List.getElem?_cons_succ] <;> rfl)); (focus (exact fun _ _ _ h => h)); (focus rfl); (focus (intro w hSw; (try dsimp only at hSw); go_simp; (try with_reducible rfl); done)); (try simp only [Act.put, List.setIfInBounds_toArray, List.set_cons_zero, List.set_cons_succ]))
                          refine wpAnyH_ready (rs := [9]) (by kernel_rfl) (by simp) ?_
                          refine AllReadyH.cons (o := ?_) ?_ ?_ AllReadyH.nil
                          rotate_left 1
                          (focus (simp only [List.getElem?_toArray, List.getElem?_cons_zero, List.getElem?_cons_succ] <;> rfl))
                          intro K hK
                          go_simp
                          refine hK.out _ _ ?_ (fun hHeld => ?_)
                          · exact HSX.out _ HT7.out
                          clear hK K
                          (try simp only [Act.put, List.setIfInBounds_toArray, List.set_cons_zero, List.set_cons_succ])
                          refine wpAnyH_done (by kernel_rfl) ?_ _
                          clear HSX hHeld
                          go_wp2_with fail
                          go_meet
                          exact ⟨rfl, upd Hs two rr.2.1, rr.2.2, HP7.out, (HRD.out _ HT7.out).arr, (HRD.out _ HT7.out).op⟩
                      · have d8 : ((r9 : Int) == 8) = false := beq_eq_false_iff_ne.2 (by omega)
                        as_aux_lemma =>
                          obtain ⟨rr, hrr⟩ : ∃ rr, nIns (hs two).isSome (Hs two) left u = rr := ⟨_, rfl⟩
                          obtain ⟨⟨p8, s8, er⟩, H8, l8⟩ := rr
                          have HRR := Lib.hid hrr
                          clear hrr
                          have HINS : Hid (∀ (W : World) (K' : Nat → Prop), Quiet wd W → (∀ k, K' k → (((k = a1 ∨ k = a2) ∨ (s0 ≤ k ∧ k < zc)) ∨ wd.heap.size ≤ k) ∧ k < W.heap.size) → (∀ k, ((k = a1 ∨ k = a2) ∨ (s0 ≤ k ∧ k < zc)) → K' k) → Calls Try.prog 43 #[.pointer (adr (hs two)), (.agg #[.int .u64 (u.row : Int), .int .u64 (u.xmin : Int), .int .u64 (u.xmax : Int), .int .i64 u.pg, .int .i64 u.sl, .slice A2 u.data.length n2])] W fun e w' => e = .returned (.tuple #[.agg #[.int .i64 p8, .int .i64 s8], .int .i64 er]) ∧ Turn w W w' K' ∧ PlayW w w' K' pb qb hs xs (upd Hs two H8) l8 Hs left) := fun W K' hq hk hkk =>
                            (HPJ.out.fresh hq hk).insH two u A2 n2 _ HUB.out ((HRD.out W (hq.mono (fun _ _ x => x.elim))).rd2) (fun k e => hkk k (HK2.out k e)) HRR.out
                          have HSX : Hid (∀ W, Turn w wd W (fun k => (k = a1 ∨ k = a2) ∨ (s0 ≤ k ∧ k < zc)) → (fun w' => w'.cell? ⟨a1, q, none⟩ = some (.pointer (adr (hs two))) ∧ w'.cell? ⟨x7, 0, none⟩ = some (.int .u64 (u.row : Int)) ∧ w'.cell? ⟨x7, 1, none⟩ = some (.int .u64 (u.xmin : Int)) ∧ w'.cell? ⟨x7, 2, none⟩ = some (.int .u64 (u.xmax : Int)) ∧ w'.cell? ⟨x7, 3, none⟩ = some (.int .i64 u.pg) ∧ w'.cell? ⟨x7, 4, none⟩ = some (.int .i64 u.sl) ∧ w'.cell? ⟨x7, 5, none⟩ = some (.slice A2 u.data.length n2)) W) := fun W ho => by
                            have h := HRD.out W ho
                            exact ⟨h.hp, box_cells h.b7⟩
                          have HSY : Hid (∀ W, Turn w wd W (fun k => (k = a1 ∨ k = a2) ∨ (s0 ≤ k ∧ k < zc)) → (fun w' => w'.cell? ⟨a2, q, none⟩ = some (.pointer (adr (xs two))) ∧ w'.cell? ⟨x6, 0, none⟩ = some (.int .u64 (u.row : Int)) ∧ w'.cell? ⟨x6, 1, none⟩ = some (.int .u64 (u.xmin : Int)) ∧ w'.cell? ⟨x6, 2, none⟩ = some (.int .u64 (u.xmax : Int)) ∧ w'.cell? ⟨x6, 3, none⟩ = some (.int .i64 u.pg) ∧ w'.cell? ⟨x6, 4, none⟩ = some (.int .i64 u.sl) ∧ w'.cell? ⟨x6, 5, none⟩ = some (.slice A1 u.data.length n1)) W) := fun W ho => by
                            have h := HRD.out W ho
                            exact ⟨h.xp, box_cells h.b6⟩
                          have HPREV : Hid (PlayW w wd (fun k => (k = a1 ∨ k = a2) ∨ (s0 ≤ k ∧ k < zc)) pb qb hs xs Hs left Hs left) := HPJ
                          have KIN : Hid (∀ k, ((k = a1 ∨ k = a2) ∨ (s0 ≤ k ∧ k < zc)) → ((k = a1 ∨ k = a2) ∨ (s0 ≤ k ∧ k < zc))) := fun _ x => x
                          go_upto_region 22 with fail
                          go_cut [18, 19] (fun s18 s19 wx => ∃ ab, s18 = ptrV ab ∧ s19 = .int .i64 er ∧ wx.heap[ab]? = some (.cells #[.int .i64 p8, .int .i64 s8] 51 (0, 0)) ∧ zc ≤ ab ∧ Turn w wd wx (fun k => (k = a1 ∨ k = a2) ∨ (s0 ≤ k ∧ k < zc)) ∧ PlayW w wx (fun k => ((k = a1 ∨ k = a2) ∨ (s0 ≤ k ∧ k < zc)) ∨ k = ab) pb qb hs xs (upd Hs two H8) l8 Hs left)
                          case first =>
                            refine wp_region_held_drew (S := (fun w' => w'.cell? ⟨a1, q, none⟩ = some (.pointer (adr (hs two))) ∧ w'.cell? ⟨x7, 0, none⟩ = some (.int .u64 (u.row : Int)) ∧ w'.cell? ⟨x7, 1, none⟩ = some (.int .u64 (u.xmin : Int)) ∧ w'.cell? ⟨x7, 2, none⟩ = some (.int .u64 (u.xmax : Int)) ∧ w'.cell? ⟨x7, 3, none⟩ = some (.int .i64 u.pg) ∧ w'.cell? ⟨x7, 4, none⟩ = some (.int .i64 u.sl) ∧ w'.cell? ⟨x7, 5, none⟩ = some (.slice A2 u.data.length n2))) (by kernel_rfl) (HSX.out _ (((Only.refl (fun k => ¬ ((k = a1 ∨ k = a2) ∨ (s0 ≤ k ∧ k < zc)) ∧ w.heap.size ≤ k) wd)).drew)) (fun hHeld => ?_)
                            simp only [List.size_toArray, List.length_cons, List.length_nil, Nat.reduceAdd]
                            have HQ0 := Lib.hid ((Only.refl (fun _ => False) wd).drew)
                            have HT0 := Lib.hid (((Only.refl (fun k => ¬ ((k = a1 ∨ k = a2) ∨ (s0 ≤ k ∧ k < zc)) ∧ w.heap.size ≤ k) wd)).drew)
                            generalize wd.drew = v0 at HQ0 HT0 hHeld ⊢
                            (refine wpAnyH_take (i := 0) (oi := ?_) (v := ?_) ?_ (by kernel_rfl) (by decide +kernel) (by decide +kernel) ?_ (Or.inl ⟨?_, ?_⟩) (by first | assumption | exact trivial) ?_; rotate_left 2; (focus (simp only [List.getElem?_toArray, List.getElem?_cons_zero, List.getElem?_cons_succ] <;> rfl)); (focus (exact fun _ _ _ h => h)); (focus rfl); (focus (intro w hSw; (try dsimp only at hSw); go_simp; (try with_reducible rfl); done)); (try simp only [Act.put, List.setIfInBounds_toArray, List.set_cons_zero, List.set_cons_succ]))
                            (refine wpAnyH_take (i := 1) (oi := ?_) (v := ?_) ?_ (by kernel_rfl) (by decide +kernel) (by decide +kernel) ?_ (Or.inl ⟨?_, ?_⟩) (by first | assumption | exact trivial) ?_; rotate_left 2; (focus (simp only [List.getElem?_toArray, List.getElem?_cons_zero, List.getElem?_cons_succ] <;> rfl)); (focus (exact fun _ _ _ h => h)); (focus rfl); (focus (intro w hSw; (try dsimp only at hSw); go_simp; (try with_reducible rfl); done)); (try simp only [Act.put, List.setIfInBounds_toArray, List.set_cons_zero, List.set_cons_succ]))
                            (refine wpAnyH_take (i := 2) (oi := ?_) (v := ?_) ?_ (by kernel_rfl) (by decide +kernel) (by decide +kernel) ?_ (Or.inl ⟨?_, ?_⟩) (by first | assumption | exact trivial) ?_; rotate_left 2; (focus (simp only [List.getElem?_toArray, List.getElem?_cons_zero, List.getElem?_cons_succ] <;> rfl)); (focus (exact fun _ _ _ h => h)); (focus rfl); (focus (intro w hSw; (try dsimp only at hSw); go_simp; (try with_reducible rfl); done)); (try simp only [Act.put, List.setIfInBounds_toArray, List.set_cons_zero, List.set_cons_succ]))
                            (refine wpAnyH_take (i := 3) (oi := ?_) (v := ?_) ?_ (by kernel_rfl) (by decide +kernel) (by decide +kernel) ?_ (Or.inl ⟨?_, ?_⟩) (by first | assumption | exact trivial) ?_; rotate_left 2; (focus (simp only [List.getElem?_toArray, List.getElem?_cons_zero, List.getElem?_cons_succ] <;> rfl)); (focus (exact fun _ _ _ h => h)); (focus rfl); (focus (intro w hSw; (try dsimp only at hSw); go_simp; (try with_reducible rfl); done)); (try simp only [Act.put, List.setIfInBounds_toArray, List.set_cons_zero, List.set_cons_succ]))
                            refine wpAnyH_ready (rs := [4, 8]) (by kernel_rfl) (by simp) ?_
                            refine AllReadyH.cons (o := ?_) ?_ ?_ ?_
                            rotate_left 1
                            (focus (simp only [List.getElem?_toArray, List.getElem?_cons_zero, List.getElem?_cons_succ] <;> rfl))
                            · intro K hK
                              go_simp
                              go_at_call 43
                              refine (HINS.out _ (fun k => ((k = a1 ∨ k = a2) ∨ (s0 ≤ k ∧ k < zc))) HQ0.out (fun k x => ⟨Or.inl x, by have h1 := HPREV.out.kl k x; have h2 := HQ0.out.size; omega⟩) (fun k x => x)).mono ?_
                              rintro e v5 ⟨rfl, ht5, hp5⟩
                              have HT5 := Lib.hid (HT0.out.trans (ht5.mono (fun k _ x => ⟨fun y => x.1 (KIN.out k y), x.2⟩)))
                              have HP5 := Lib.hid hp5
                              clear ht5 hp5
                              dsimp only
                              refine hK.out _ _ ?_ (fun hHeld => ?_)
                              · exact HSX.out _ HT5.out
                              clear hK K
                              (try simp only [Act.put, List.setIfInBounds_toArray, List.set_cons_zero, List.set_cons_succ])
                              (refine wpAnyH_take (i := 5) (oi := ?_) (v := ?_) ?_ (by kernel_rfl) (by decide +kernel) (by decide +kernel) ?_ (Or.inl ⟨?_, ?_⟩) (by first | assumption | exact trivial) ?_; rotate_left 2; (focus (simp only [List.getElem?_toArray, List.getElem?_cons_zero, List.getElem?_cons_succ] <;> rfl)); (focus (exact fun _ _ _ h => h)); (focus rfl); (focus (intro w hSw; (try dsimp only at hSw); go_simp; (try with_reducible rfl); done)); (try simp only [Act.put, List.setIfInBounds_toArray, List.set_cons_zero, List.set_cons_succ]))
                              (refine wpAnyH_take (i := 6) (oi := ?_) (v := ?_) ?_ (by kernel_rfl) (by decide +kernel) (by decide +kernel) ?_ (Or.inl ⟨?_, ?_⟩) (by first | assumption | exact trivial) ?_; rotate_left 2; (focus (simp only [List.getElem?_toArray, List.getElem?_cons_zero, List.getElem?_cons_succ] <;> rfl)); (focus (exact fun _ _ _ h => h)); (focus rfl); (focus (intro w hSw; (try dsimp only at hSw); go_simp; (try with_reducible rfl); done)); (try simp only [Act.put, List.setIfInBounds_toArray, List.set_cons_zero, List.set_cons_succ]))
                              (refine wpAnyH_take (i := 7) (oi := ?_) (v := ?_) ?_ (by kernel_rfl) (by decide +kernel) (by decide +kernel) ?_ (Or.inl ⟨?_, ?_⟩) (by first | assumption | exact trivial) ?_; rotate_left 2; (focus (simp only [List.getElem?_toArray, List.getElem?_cons_zero, List.getElem?_cons_succ] <;> rfl)); (focus (exact fun _ _ _ h => h)); (focus rfl); (focus (intro w hSw; (try dsimp only at hSw); go_simp; (try with_reducible rfl); done)); (try simp only [Act.put, List.setIfInBounds_toArray, List.set_cons_zero, List.set_cons_succ]))
                              refine wpAnyH_ready (rs := [8]) (by kernel_rfl) (by simp) ?_
                              refine AllReadyH.cons (o := ?_) ?_ ?_ ?_
                              rotate_left 1
                              (focus (simp only [List.getElem?_toArray, List.getElem?_cons_zero, List.getElem?_cons_succ] <;> rfl))
                              · intro K hK
                                go_simp
                                refine hK.out _ _ ?_ (fun hHeld => ?_)
                                · exact HSX.out _ (HT5.out.alloc _)
                                clear hK K
                                (try simp only [Act.put, List.setIfInBounds_toArray, List.set_cons_zero, List.set_cons_succ])
                                have q1 : Quiet v5 (v5.alloc (.cells #[.int .i64 0, .int .i64 0] 51)) := (Only.refl _ _).alloc _
                                have abB := Lib.hid (alloc_new v5 (.cells #[.int .i64 0, .int .i64 0] 51))
                                have LAB : Hid (zc ≤ v5.heap.size ∧ zc ≤ v5.heap.size) := by have h1 := HT5.out.size; have h2 := HZC.out; show zc ≤ v5.heap.size ∧ zc ≤ v5.heap.size; omega
                                have HT6 := Lib.hid (HT5.out.alloc (.cells #[.int .i64 0, .int .i64 0] 51))
                                have HP6 := Lib.hid (HP5.out.fresh (K' := fun k => ((k = a1 ∨ k = a2) ∨ (s0 ≤ k ∧ k < zc)) ∨ k = v5.heap.size) q1 (fun k x => by rcases x with x | x; exact ⟨Or.inl x, by have h1 := HP5.out.kl k x; have h2 := q1.size; omega⟩; exact ⟨Or.inr (by omega), by rw [x, World.size_alloc]; omega⟩))
                                clear q1 HT5 HP5
                                generalize v5.alloc (.cells #[.int .i64 0, .int .i64 0] 51) = v6 at HT6 HP6 abB hHeld ⊢
                                generalize v5.heap.size = ab at HP6 abB LAB ⊢
                                obtain ⟨z0, z1⟩ : v6.cell? ⟨ab, 0, none⟩ = some (.int .i64 0) ∧ v6.cell? ⟨ab, 1, none⟩ = some (.int .i64 0) := ⟨by rw [cell_of abB.out]; rfl, by rw [cell_of abB.out]; rfl⟩
                                have zf := fun o => frozen_of abB.out o
                                have HTE := Lib.hid (HT6.out.trans' (two_only v6 ab (.int .i64 p8) (.int .i64 s8)) (fun k hk e => by have h1 := LAB.out; have h2 := HZC.out; omega))
                                have HBE := Lib.hid (two_set abB.out (.int .i64 p8) (.int .i64 s8))
                                have HPE := Lib.hid (HP6.out.mine (two_only v6 ab (.int .i64 p8) (.int .i64 s8)) (fun k e => ⟨Or.inr e, by have h1 := LAB.out; have h2 := HSZ.out; omega⟩))
                                refine wpAnyH_ready (rs := [9]) (by kernel_rfl) (by simp) ?_
                                refine AllReadyH.cons (o := ?_) ?_ ?_ ?_
                                rotate_left 1
                                (focus (simp only [List.getElem?_toArray, List.getElem?_cons_zero, List.getElem?_cons_succ] <;> rfl))
                                · intro K hK
                                  go_simp
                                  refine hK.out _ _ ?_ (fun hHeld => ?_)
                                  · exact HSX.out _ HTE.out
                                  clear hK K
                                  (try simp only [Act.put, List.setIfInBounds_toArray, List.set_cons_zero, List.set_cons_succ])
                                  refine wpAnyH_ready (rs := [10]) (by kernel_rfl) (by simp) ?_
                                  refine AllReadyH.cons (o := ?_) ?_ ?_ ?_
                                  rotate_left 1
                                  (focus (simp only [List.getElem?_toArray, List.getElem?_cons_zero, List.getElem?_cons_succ] <;> rfl))
                                  · intro K hK
                                    go_simp
                                    refine hK.out _ _ ?_ (fun hHeld => ?_)
                                    · exact HSX.out _ HTE.out
                                    clear hK K
                                    (try simp only [Act.put, List.setIfInBounds_toArray, List.set_cons_zero, List.set_cons_succ])
                                    refine wpAnyH_done (by kernel_rfl) ?_ _
                                    go_wp2_with fail
                                    go_meet
                                    exact ⟨ab, rfl, rfl, HBE.out, LAB.out.1, HTE.out, HPE.out⟩
                                  exact AllReadyH.nil
                                exact AllReadyH.nil
                              exact AllReadyH.nil
                            refine AllReadyH.cons (o := ?_) ?_ ?_ ?_
                            rotate_left 1
                            (focus (simp only [List.getElem?_toArray, List.getElem?_cons_zero, List.getElem?_cons_succ] <;> rfl))
                            · intro K hK
                              go_simp
                              refine hK.out _ _ ?_ (fun hHeld => ?_)
                              · exact HSX.out _ (HT0.out.alloc _)
                              clear hK K
                              (try simp only [Act.put, List.setIfInBounds_toArray, List.set_cons_zero, List.set_cons_succ])
                              have abB := Lib.hid (alloc_new v0 (.cells #[.int .i64 0, .int .i64 0] 51))
                              have q1 : Quiet wd (v0.alloc (.cells #[.int .i64 0, .int .i64 0] 51)) := HQ0.out.alloc _
                              have HT4 := Lib.hid (HT0.out.alloc (.cells #[.int .i64 0, .int .i64 0] 51))
                              have LAB : Hid (zc ≤ v0.heap.size ∧ wd.heap.size ≤ v0.heap.size) := by have h1 := HT0.out.size; have h2 := HZC.out; have h3 := HQ0.out.size; show zc ≤ v0.heap.size ∧ wd.heap.size ≤ v0.heap.size; omega
                              have HIN2 := Lib.hid (HINS.out _ (fun k => ((k = a1 ∨ k = a2) ∨ (s0 ≤ k ∧ k < zc)) ∨ k = v0.heap.size) q1 (fun k x => by rcases x with x | x; exact ⟨Or.inl x, by have h1 := HPREV.out.kl k x; have h2 := q1.size; omega⟩; exact ⟨Or.inr (by rw [x]; exact LAB.out.2), by rw [x, World.size_alloc]; omega⟩) (fun k x => Or.inl x))
                              clear q1
                              generalize v0.alloc (.cells #[.int .i64 0, .int .i64 0] 51) = v4 at HT4 HIN2 abB hHeld ⊢
                              generalize v0.heap.size = ab at HIN2 abB LAB ⊢
                              refine wpAnyH_ready (rs := [4]) (by kernel_rfl) (by simp) ?_
                              refine AllReadyH.cons (o := ?_) ?_ ?_ ?_
                              rotate_left 1
                              (focus (simp only [List.getElem?_toArray, List.getElem?_cons_zero, List.getElem?_cons_succ] <;> rfl))
                              · intro K hK
                                go_simp
                                go_at_call 43
                                refine HIN2.out.mono ?_
                                rintro e v5 ⟨rfl, ht5, hp5⟩
                                have HT5 := Lib.hid (HT4.out.trans (ht5.mono (fun k _ x => ⟨fun y => x.1 (Or.inl (KIN.out k y)), x.2⟩)))
                                have HP5 := Lib.hid hp5
                                have abB2 := Lib.hid (ht5.get abB.out (fun x => x.1 (Or.inr rfl)))
                                clear ht5 hp5
                                dsimp only
                                refine hK.out _ _ ?_ (fun hHeld => ?_)
                                · exact HSX.out _ HT5.out
                                clear hK K
                                (try simp only [Act.put, List.setIfInBounds_toArray, List.set_cons_zero, List.set_cons_succ])
                                (refine wpAnyH_take (i := 5) (oi := ?_) (v := ?_) ?_ (by kernel_rfl) (by decide +kernel) (by decide +kernel) ?_ (Or.inl ⟨?_, ?_⟩) (by first | assumption | exact trivial) ?_; rotate_left 2; (focus (simp only [List.getElem?_toArray, List.getElem?_cons_zero, List.getElem?_cons_succ] <;> rfl)); (focus (exact fun _ _ _ h => h)); (focus rfl); (focus (intro w hSw; (try dsimp only at hSw); go_simp; (try with_reducible rfl); done)); (try simp only [Act.put, List.setIfInBounds_toArray, List.set_cons_zero, List.set_cons_succ]))
                                (refine wpAnyH_take (i := 6) (oi := ?_) (v := ?_) ?_ (by kernel_rfl) (by decide +kernel) (by decide +kernel) ?_ (Or.inl ⟨?_, ?_⟩) (by first | assumption | exact trivial) ?_; rotate_left 2; (focus (simp only [List.getElem?_toArray, List.getElem?_cons_zero, List.getElem?_cons_succ] <;> rfl)); (focus (exact fun _ _ _ h => h)); (focus rfl); (focus (intro w hSw; (try dsimp only at hSw); go_simp; (try with_reducible rfl); done)); (try simp only [Act.put, List.setIfInBounds_toArray, List.set_cons_zero, List.set_cons_succ]))
                                (refine wpAnyH_take (i := 7) (oi := ?_) (v := ?_) ?_ (by kernel_rfl) (by decide +kernel) (by decide +kernel) ?_ (Or.inl ⟨?_, ?_⟩) (by first | assumption | exact trivial) ?_; rotate_left 2; (focus (simp only [List.getElem?_toArray, List.getElem?_cons_zero, List.getElem?_cons_succ] <;> rfl)); (focus (exact fun _ _ _ h => h)); (focus rfl); (focus (intro w hSw; (try dsimp only at hSw); go_simp; (try with_reducible rfl); done)); (try simp only [Act.put, List.setIfInBounds_toArray, List.set_cons_zero, List.set_cons_succ]))
                                obtain ⟨z0, z1⟩ : v5.cell? ⟨ab, 0, none⟩ = some (.int .i64 0) ∧ v5.cell? ⟨ab, 1, none⟩ = some (.int .i64 0) := ⟨by rw [cell_of abB2.out]; rfl, by rw [cell_of abB2.out]; rfl⟩
                                have zf := fun o => frozen_of abB2.out o
                                have HTE := Lib.hid (HT5.out.trans' (two_only v5 ab (.int .i64 p8) (.int .i64 s8)) (fun k hk e => by have h1 := LAB.out; have h2 := HZC.out; omega))
                                have HBE := Lib.hid (two_set abB2.out (.int .i64 p8) (.int .i64 s8))
                                have HPE := Lib.hid (HP5.out.mine (two_only v5 ab (.int .i64 p8) (.int .i64 s8)) (fun k e => ⟨Or.inr e, by have h1 := LAB.out; have h2 := HSZ.out; omega⟩))
                                refine wpAnyH_ready (rs := [9]) (by kernel_rfl) (by simp) ?_
                                refine AllReadyH.cons (o := ?_) ?_ ?_ ?_
                                rotate_left 1
                                (focus (simp only [List.getElem?_toArray, List.getElem?_cons_zero, List.getElem?_cons_succ] <;> rfl))
                                · intro K hK
                                  go_simp
                                  refine hK.out _ _ ?_ (fun hHeld => ?_)
                                  · exact HSX.out _ HTE.out
                                  clear hK K
                                  (try simp only [Act.put, List.setIfInBounds_toArray, List.set_cons_zero, List.set_cons_succ])
                                  refine wpAnyH_ready (rs := [10]) (by kernel_rfl) (by simp) ?_
                                  refine AllReadyH.cons (o := ?_) ?_ ?_ ?_
                                  rotate_left 1
                                  (focus (simp only [List.getElem?_toArray, List.getElem?_cons_zero, List.getElem?_cons_succ] <;> rfl))
                                  · intro K hK
                                    go_simp
                                    refine hK.out _ _ ?_ (fun hHeld => ?_)
                                    · exact HSX.out _ HTE.out
                                    clear hK K
                                    (try simp only [Act.put, List.setIfInBounds_toArray, List.set_cons_zero, List.set_cons_succ])
                                    refine wpAnyH_done (by kernel_rfl) ?_ _
                                    go_wp2_with fail
                                    go_meet
                                    exact ⟨ab, rfl, rfl, HBE.out, LAB.out.1, HTE.out, HPE.out⟩
                                  exact AllReadyH.nil
                                exact AllReadyH.nil
                              exact AllReadyH.nil
                            exact AllReadyH.nil
                          case rest =>
                            obtain ⟨ab, rfl, rfl, hb, hl, ht, hp⟩ := hcut
                            have HBA := Lib.hid hb
                            have HLA1 := Lib.hid hl
                            have HTA := Lib.hid ht
                            have HPA := Lib.hid hp
                            clear hb hl ht hp HPREV KIN HINS HSX
                            have HPREV : Hid (PlayW w wc (fun k => (((k = a1 ∨ k = a2) ∨ (s0 ≤ k ∧ k < zc)) ∨ k = ab)) pb qb hs xs (upd Hs two H8) l8 Hs left) := HPA
                            have KIN : Hid (∀ k, ((k = a1 ∨ k = a2) ∨ (s0 ≤ k ∧ k < zc)) → (((k = a1 ∨ k = a2) ∨ (s0 ≤ k ∧ k < zc)) ∨ k = ab)) := fun _ x => Or.inl x
                            have HINS : Hid (∀ (W : World) (K' : Nat → Prop), Quiet wc W → (∀ k, K' k → ((((k = a1 ∨ k = a2) ∨ (s0 ≤ k ∧ k < zc)) ∨ k = ab) ∨ wc.heap.size ≤ k) ∧ k < W.heap.size) → (∀ k, (((k = a1 ∨ k = a2) ∨ (s0 ≤ k ∧ k < zc)) ∨ k = ab) → K' k) → Calls Try.prog 56 #[.pointer (adr (xs two)), (.agg #[.int .u64 (u.row : Int), .int .u64 (u.xmin : Int), .int .u64 (u.xmax : Int), .int .i64 u.pg, .int .i64 u.sl, .slice A1 u.data.length n1])] W fun e w' => e = .returned (.tuple #[.agg #[.int .i64 p8, .int .i64 s8], .int .i64 er]) ∧ Turn w W w' K' ∧ PlayW w w' K' pb qb hs xs (upd Hs two H8) l8 (upd Hs two H8) l8) := fun W K' hq hk hkk =>
                              (HPREV.out.fresh hq hk).insX two u A1 n1 _ HUB.out ((HRD.out W (HTA.out.trans' hq (fun _ _ x => x.elim))).rd1) (fun k e => hkk k (Or.inl (HK1.out k e))) HRR.out
                            go_upto_region 23 with fail
                            go_cut [20, 21] (fun s20 s21 wx => ∃ cb, s20 = ptrV cb ∧ s21 = .int .i64 er ∧ wx.heap[ab]? = some (.cells #[.int .i64 p8, .int .i64 s8] 51 (0, 0)) ∧ wx.heap[cb]? = some (.cells #[.int .i64 p8, .int .i64 s8] 51 (0, 0)) ∧ Turn w wd wx (fun k => (k = a1 ∨ k = a2) ∨ (s0 ≤ k ∧ k < zc)) ∧ PlayW w wx (fun k => (k = a1 ∨ k = a2) ∨ (s0 ≤ k ∧ k < zc)) pb qb hs xs (upd Hs two H8) l8 (upd Hs two H8) l8)
                            case first =>
                              generalize wc = we at HBA HTA HPREV HINS HPA ⊢
                              refine wp_region_held_drew (S := (fun w' => w'.cell? ⟨a2, q, none⟩ = some (.pointer (adr (xs two))) ∧ w'.cell? ⟨x6, 0, none⟩ = some (.int .u64 (u.row : Int)) ∧ w'.cell? ⟨x6, 1, none⟩ = some (.int .u64 (u.xmin : Int)) ∧ w'.cell? ⟨x6, 2, none⟩ = some (.int .u64 (u.xmax : Int)) ∧ w'.cell? ⟨x6, 3, none⟩ = some (.int .i64 u.pg) ∧ w'.cell? ⟨x6, 4, none⟩ = some (.int .i64 u.sl) ∧ w'.cell? ⟨x6, 5, none⟩ = some (.slice A1 u.data.length n1))) (by kernel_rfl) (HSY.out _ ((HTA.out).drew)) (fun hHeld => ?_)
                              simp only [List.size_toArray, List.length_cons, List.length_nil, Nat.reduceAdd]
                              have HQ0 := Lib.hid ((Only.refl (fun _ => False) we).drew)
                              have HT0 := Lib.hid ((HTA.out).drew)
                              generalize we.drew = v0 at HQ0 HT0 hHeld ⊢
                              (refine wpAnyH_take (i := 0) (oi := ?_) (v := ?_) ?_ (by kernel_rfl) (by decide +kernel) (by decide +kernel) ?_ (Or.inl ⟨?_, ?_⟩) (by first | assumption | exact trivial) ?_; rotate_left 2; (focus (simp only [List.getElem?_toArray, List.getElem?_cons_zero, List.getElem?_cons_succ] <;> rfl)); (focus (exact fun _ _ _ h => h)); (focus rfl); (focus (intro w hSw; (try dsimp only at hSw); go_simp; (try with_reducible rfl); done)); (try simp only [Act.put, List.setIfInBounds_toArray, List.set_cons_zero, List.set_cons_succ]))
                              (refine wpAnyH_take (i := 1) (oi := ?_) (v := ?_) ?_ (by kernel_rfl) (by decide +kernel) (by decide +kernel) ?_ (Or.inl ⟨?_, ?_⟩) (by first | assumption | exact trivial) ?_; rotate_left 2; (focus (simp only [List.getElem?_toArray, List.getElem?_cons_zero, List.getElem?_cons_succ] <;> rfl)); (focus (exact fun _ _ _ h => h)); (focus rfl); (focus (intro w hSw; (try dsimp only at hSw); go_simp; (try with_reducible rfl); done)); (try simp only [Act.put, List.setIfInBounds_toArray, List.set_cons_zero, List.set_cons_succ]))
                              (refine wpAnyH_take (i := 2) (oi := ?_) (v := ?_) ?_ (by kernel_rfl) (by decide +kernel) (by decide +kernel) ?_ (Or.inl ⟨?_, ?_⟩) (by first | assumption | exact trivial) ?_; rotate_left 2; (focus (simp only [List.getElem?_toArray, List.getElem?_cons_zero, List.getElem?_cons_succ] <;> rfl)); (focus (exact fun _ _ _ h => h)); (focus rfl); (focus (intro w hSw; (try dsimp only at hSw); go_simp; (try with_reducible rfl); done)); (try simp only [Act.put, List.setIfInBounds_toArray, List.set_cons_zero, List.set_cons_succ]))
                              (refine wpAnyH_take (i := 3) (oi := ?_) (v := ?_) ?_ (by kernel_rfl) (by decide +kernel) (by decide +kernel) ?_ (Or.inl ⟨?_, ?_⟩) (by first | assumption | exact trivial) ?_; rotate_left 2; (focus (simp only [List.getElem?_toArray, List.getElem?_cons_zero, List.getElem?_cons_succ] <;> rfl)); (focus (exact fun _ _ _ h => h)); (focus rfl); (focus (intro w hSw; (try dsimp only at hSw); go_simp; (try with_reducible rfl); done)); (try simp only [Act.put, List.setIfInBounds_toArray, List.set_cons_zero, List.set_cons_succ]))
                              refine wpAnyH_ready (rs := [4, 8]) (by kernel_rfl) (by simp) ?_
                              refine AllReadyH.cons (o := ?_) ?_ ?_ ?_
                              rotate_left 1
                              (focus (simp only [List.getElem?_toArray, List.getElem?_cons_zero, List.getElem?_cons_succ] <;> rfl))
                              · intro K hK
                                go_simp
                                go_at_call 56
                                refine (HINS.out _ (fun k => (((k = a1 ∨ k = a2) ∨ (s0 ≤ k ∧ k < zc)) ∨ k = ab)) HQ0.out (fun k x => ⟨Or.inl x, by have h1 := HPREV.out.kl k x; have h2 := HQ0.out.size; omega⟩) (fun k x => x)).mono ?_
                                rintro e v5 ⟨rfl, ht5, hp5⟩
                                have HT5 := Lib.hid (HT0.out.trans (ht5.mono (fun k _ x => ⟨fun y => x.1 (KIN.out k y), x.2⟩)))
                                have HP5 := Lib.hid hp5
                                have HAB := Lib.hid (ht5.get (HQ0.out.get HBA.out (fun x => x)) (fun x => x.1 (Or.inr rfl)))
                                clear ht5 hp5
                                dsimp only
                                refine hK.out _ _ ?_ (fun hHeld => ?_)
                                · exact HSY.out _ HT5.out
                                clear hK K
                                (try simp only [Act.put, List.setIfInBounds_toArray, List.set_cons_zero, List.set_cons_succ])
                                (refine wpAnyH_take (i := 5) (oi := ?_) (v := ?_) ?_ (by kernel_rfl) (by decide +kernel) (by decide +kernel) ?_ (Or.inl ⟨?_, ?_⟩) (by first | assumption | exact trivial) ?_; rotate_left 2; (focus (simp only [List.getElem?_toArray, List.getElem?_cons_zero, List.getElem?_cons_succ] <;> rfl)); (focus (exact fun _ _ _ h => h)); (focus rfl); (focus (intro w hSw; (try dsimp only at hSw); go_simp; (try with_reducible rfl); done)); (try simp only [Act.put, List.setIfInBounds_toArray, List.set_cons_zero, List.set_cons_succ]))
                                (refine wpAnyH_take (i := 6) (oi := ?_) (v := ?_) ?_ (by kernel_rfl) (by decide +kernel) (by decide +kernel) ?_ (Or.inl ⟨?_, ?_⟩) (by first | assumption | exact trivial) ?_; rotate_left 2; (focus (simp only [List.getElem?_toArray, List.getElem?_cons_zero, List.getElem?_cons_succ] <;> rfl)); (focus (exact fun _ _ _ h => h)); (focus rfl); (focus (intro w hSw; (try dsimp only at hSw); go_simp; (try with_reducible rfl); done)); (try simp only [Act.put, List.setIfInBounds_toArray, List.set_cons_zero, List.set_cons_succ]))
                                (refine wpAnyH_take (i := 7) (oi := ?_) (v := ?_) ?_ (by kernel_rfl) (by decide +kernel) (by decide +kernel) ?_ (Or.inl ⟨?_, ?_⟩) (by first | assumption | exact trivial) ?_; rotate_left 2; (focus (simp only [List.getElem?_toArray, List.getElem?_cons_zero, List.getElem?_cons_succ] <;> rfl)); (focus (exact fun _ _ _ h => h)); (focus rfl); (focus (intro w hSw; (try dsimp only at hSw); go_simp; (try with_reducible rfl); done)); (try simp only [Act.put, List.setIfInBounds_toArray, List.set_cons_zero, List.set_cons_succ]))
                                refine wpAnyH_ready (rs := [8]) (by kernel_rfl) (by simp) ?_
                                refine AllReadyH.cons (o := ?_) ?_ ?_ ?_
                                rotate_left 1
                                (focus (simp only [List.getElem?_toArray, List.getElem?_cons_zero, List.getElem?_cons_succ] <;> rfl))
                                · intro K hK
                                  go_simp
                                  refine hK.out _ _ ?_ (fun hHeld => ?_)
                                  · exact HSY.out _ (HT5.out.alloc _)
                                  clear hK K
                                  (try simp only [Act.put, List.setIfInBounds_toArray, List.set_cons_zero, List.set_cons_succ])
                                  have q1 : Quiet v5 (v5.alloc (.cells #[.int .i64 0, .int .i64 0] 51)) := (Only.refl _ _).alloc _
                                  have cbB := Lib.hid (alloc_new v5 (.cells #[.int .i64 0, .int .i64 0] 51))
                                  have LAB : Hid (zc ≤ v5.heap.size ∧ zc ≤ v5.heap.size) := by have h1 := HT5.out.size; have h2 := HZC.out; show zc ≤ v5.heap.size ∧ zc ≤ v5.heap.size; omega
                                  have HT6 := Lib.hid (HT5.out.alloc (.cells #[.int .i64 0, .int .i64 0] 51))
                                  have HP6 := Lib.hid (HP5.out.fresh (K' := fun k => (((k = a1 ∨ k = a2) ∨ (s0 ≤ k ∧ k < zc)) ∨ k = ab) ∨ k = v5.heap.size) q1 (fun k x => by rcases x with x | x; exact ⟨Or.inl x, by have h1 := HP5.out.kl k x; have h2 := q1.size; omega⟩; exact ⟨Or.inr (by omega), by rw [x, World.size_alloc]; omega⟩))
                                  have HNAB : Hid (¬ ab = v5.heap.size) := by have h1 := lt_of_get HAB.out; show ¬ ab = v5.heap.size; omega
                                  replace HAB := Lib.hid (alloc_old HAB.out (.cells #[.int .i64 0, .int .i64 0] 51))
                                  clear q1 HT5 HP5
                                  generalize v5.alloc (.cells #[.int .i64 0, .int .i64 0] 51) = v6 at HT6 HP6 cbB hHeld HAB ⊢
                                  generalize v5.heap.size = cb at HP6 cbB LAB HNAB ⊢
                                  obtain ⟨z0, z1⟩ : v6.cell? ⟨cb, 0, none⟩ = some (.int .i64 0) ∧ v6.cell? ⟨cb, 1, none⟩ = some (.int .i64 0) := ⟨by rw [cell_of cbB.out]; rfl, by rw [cell_of cbB.out]; rfl⟩
                                  have zf := fun o => frozen_of cbB.out o
                                  have HTE := Lib.hid (HT6.out.trans' (two_only v6 cb (.int .i64 p8) (.int .i64 s8)) (fun k hk e => by have h1 := LAB.out; have h2 := HZC.out; omega))
                                  have HBE := Lib.hid (two_set cbB.out (.int .i64 p8) (.int .i64 s8))
                                  have HABE := Lib.hid ((two_only v6 cb (.int .i64 p8) (.int .i64 s8)).get HAB.out HNAB.out)
                                  have HPE := Lib.hid (HP6.out.mine (two_only v6 cb (.int .i64 p8) (.int .i64 s8)) (fun k e => ⟨Or.inr e, by have h1 := LAB.out; have h2 := HSZ.out; omega⟩))
                                  refine wpAnyH_ready (rs := [9]) (by kernel_rfl) (by simp) ?_
                                  refine AllReadyH.cons (o := ?_) ?_ ?_ ?_
                                  rotate_left 1
                                  (focus (simp only [List.getElem?_toArray, List.getElem?_cons_zero, List.getElem?_cons_succ] <;> rfl))
                                  · intro K hK
                                    go_simp
                                    refine hK.out _ _ ?_ (fun hHeld => ?_)
                                    · exact HSY.out _ HTE.out
                                    clear hK K
                                    (try simp only [Act.put, List.setIfInBounds_toArray, List.set_cons_zero, List.set_cons_succ])
                                    refine wpAnyH_ready (rs := [10]) (by kernel_rfl) (by simp) ?_
                                    refine AllReadyH.cons (o := ?_) ?_ ?_ ?_
                                    rotate_left 1
                                    (focus (simp only [List.getElem?_toArray, List.getElem?_cons_zero, List.getElem?_cons_succ] <;> rfl))
                                    · intro K hK
                                      go_simp
                                      refine hK.out _ _ ?_ (fun hHeld => ?_)
                                      · exact HSY.out _ HTE.out
                                      clear hK K
                                      (try simp only [Act.put, List.setIfInBounds_toArray, List.set_cons_zero, List.set_cons_succ])
                                      refine wpAnyH_done (by kernel_rfl) ?_ _
                                      go_wp2_with fail
                                      go_meet
                                      exact ⟨cb, rfl, rfl, HABE.out, HBE.out, HTE.out, HPE.out.fresh (Only.refl _ _) (fun k x => ⟨Or.inl (Or.inl (Or.inl x)), HPE.out.kl k (Or.inl (Or.inl x))⟩)⟩
                                    exact AllReadyH.nil
                                  exact AllReadyH.nil
                                exact AllReadyH.nil
                              refine AllReadyH.cons (o := ?_) ?_ ?_ ?_
                              rotate_left 1
                              (focus (simp only [List.getElem?_toArray, List.getElem?_cons_zero, List.getElem?_cons_succ] <;> rfl))
                              · intro K hK
                                go_simp
                                refine hK.out _ _ ?_ (fun hHeld => ?_)
                                · exact HSY.out _ (HT0.out.alloc _)
                                clear hK K
                                (try simp only [Act.put, List.setIfInBounds_toArray, List.set_cons_zero, List.set_cons_succ])
                                have cbB := Lib.hid (alloc_new v0 (.cells #[.int .i64 0, .int .i64 0] 51))
                                have q1 : Quiet we (v0.alloc (.cells #[.int .i64 0, .int .i64 0] 51)) := HQ0.out.alloc _
                                have HT4 := Lib.hid (HT0.out.alloc (.cells #[.int .i64 0, .int .i64 0] 51))
                                have LAB : Hid (zc ≤ v0.heap.size ∧ we.heap.size ≤ v0.heap.size) := by have h1 := HT0.out.size; have h2 := HZC.out; have h3 := HQ0.out.size; show zc ≤ v0.heap.size ∧ we.heap.size ≤ v0.heap.size; omega
                                have HIN2 := Lib.hid (HINS.out _ (fun k => (((k = a1 ∨ k = a2) ∨ (s0 ≤ k ∧ k < zc)) ∨ k = ab) ∨ k = v0.heap.size) q1 (fun k x => by rcases x with x | x; exact ⟨Or.inl x, by have h1 := HPREV.out.kl k x; have h2 := q1.size; omega⟩; exact ⟨Or.inr (by rw [x]; exact LAB.out.2), by rw [x, World.size_alloc]; omega⟩) (fun k x => Or.inl x))
                                have HNAB : Hid (¬ ab = v0.heap.size) := by have h1 := lt_of_get HBA.out; have h2 := HQ0.out.size; show ¬ ab = v0.heap.size; omega
                                have HAB := Lib.hid (alloc_old (HQ0.out.get HBA.out (fun x => x)) (.cells #[.int .i64 0, .int .i64 0] 51))
                                clear q1
                                generalize v0.alloc (.cells #[.int .i64 0, .int .i64 0] 51) = v4 at HT4 HIN2 cbB hHeld HAB ⊢
                                generalize v0.heap.size = cb at HIN2 cbB LAB HNAB ⊢
                                refine wpAnyH_ready (rs := [4]) (by kernel_rfl) (by simp) ?_
                                refine AllReadyH.cons (o := ?_) ?_ ?_ ?_
                                rotate_left 1
                                (focus (simp only [List.getElem?_toArray, List.getElem?_cons_zero, List.getElem?_cons_succ] <;> rfl))
                                · intro K hK
                                  go_simp
                                  go_at_call 56
                                  refine HIN2.out.mono ?_
                                  rintro e v5 ⟨rfl, ht5, hp5⟩
                                  have HT5 := Lib.hid (HT4.out.trans (ht5.mono (fun k _ x => ⟨fun y => x.1 (Or.inl (KIN.out k y)), x.2⟩)))
                                  have HP5 := Lib.hid hp5
                                  have cbB2 := Lib.hid (ht5.get cbB.out (fun x => x.1 (Or.inr rfl)))
                                  replace HAB := Lib.hid (ht5.get HAB.out (fun x => x.1 (Or.inl (Or.inr rfl))))
                                  clear ht5 hp5
                                  dsimp only
                                  refine hK.out _ _ ?_ (fun hHeld => ?_)
                                  · exact HSY.out _ HT5.out
                                  clear hK K
                                  (try simp only [Act.put, List.setIfInBounds_toArray, List.set_cons_zero, List.set_cons_succ])
                                  (refine wpAnyH_take (i := 5) (oi := ?_) (v := ?_) ?_ (by kernel_rfl) (by decide +kernel) (by decide +kernel) ?_ (Or.inl ⟨?_, ?_⟩) (by first | assumption | exact trivial) ?_; rotate_left 2; (focus (simp only [List.getElem?_toArray, List.getElem?_cons_zero, List.getElem?_cons_succ] <;> rfl)); (focus (exact fun _ _ _ h => h)); (focus rfl); (focus (intro w hSw; (try dsimp only at hSw); go_simp; (try with_reducible rfl); done)); (try simp only [Act.put, List.setIfInBounds_toArray, List.set_cons_zero, List.set_cons_succ]))
                                  (refine wpAnyH_take (i := 6) (oi := ?_) (v := ?_) ?_ (by kernel_rfl) (by decide +kernel) (by decide +kernel) ?_ (Or.inl ⟨?_, ?_⟩) (by first | assumption | exact trivial) ?_; rotate_left 2; (focus (simp only [List.getElem?_toArray, List.getElem?_cons_zero, List.getElem?_cons_succ] <;> rfl)); (focus (exact fun _ _ _ h => h)); (focus rfl); (focus (intro w hSw; (try dsimp only at hSw); go_simp; (try with_reducible rfl); done)); (try simp only [Act.put, List.setIfInBounds_toArray, List.set_cons_zero, List.set_cons_succ]))
                                  (refine wpAnyH_take (i := 7) (oi := ?_) (v := ?_) ?_ (by kernel_rfl) (by decide +kernel) (by decide +kernel) ?_ (Or.inl ⟨?_, ?_⟩) (by first | assumption | exact trivial) ?_; rotate_left 2; (focus (simp only [List.getElem?_toArray, List.getElem?_cons_zero, List.getElem?_cons_succ] <;> rfl)); (focus (exact fun _ _ _ h => h)); (focus rfl); (focus (intro w hSw; (try dsimp only at hSw); go_simp; (try with_reducible rfl); done)); (try simp only [Act.put, List.setIfInBounds_toArray, List.set_cons_zero, List.set_cons_succ]))
                                  obtain ⟨z0, z1⟩ : v5.cell? ⟨cb, 0, none⟩ = some (.int .i64 0) ∧ v5.cell? ⟨cb, 1, none⟩ = some (.int .i64 0) := ⟨by rw [cell_of cbB2.out]; rfl, by rw [cell_of cbB2.out]; rfl⟩
                                  have zf := fun o => frozen_of cbB2.out o
                                  have HTE := Lib.hid (HT5.out.trans' (two_only v5 cb (.int .i64 p8) (.int .i64 s8)) (fun k hk e => by have h1 := LAB.out; have h2 := HZC.out; omega))
                                  have HBE := Lib.hid (two_set cbB2.out (.int .i64 p8) (.int .i64 s8))
                                  have HABE := Lib.hid ((two_only v5 cb (.int .i64 p8) (.int .i64 s8)).get HAB.out HNAB.out)
                                  have HPE := Lib.hid (HP5.out.mine (two_only v5 cb (.int .i64 p8) (.int .i64 s8)) (fun k e => ⟨Or.inr e, by have h1 := LAB.out; have h2 := HSZ.out; omega⟩))
                                  refine wpAnyH_ready (rs := [9]) (by kernel_rfl) (by simp) ?_
                                  refine AllReadyH.cons (o := ?_) ?_ ?_ ?_
                                  rotate_left 1
                                  (focus (simp only [List.getElem?_toArray, List.getElem?_cons_zero, List.getElem?_cons_succ] <;> rfl))
                                  · intro K hK
                                    go_simp
                                    refine hK.out _ _ ?_ (fun hHeld => ?_)
                                    · exact HSY.out _ HTE.out
                                    clear hK K
                                    (try simp only [Act.put, List.setIfInBounds_toArray, List.set_cons_zero, List.set_cons_succ])
                                    refine wpAnyH_ready (rs := [10]) (by kernel_rfl) (by simp) ?_
                                    refine AllReadyH.cons (o := ?_) ?_ ?_ ?_
                                    rotate_left 1
                                    (focus (simp only [List.getElem?_toArray, List.getElem?_cons_zero, List.getElem?_cons_succ] <;> rfl))
                                    · intro K hK
                                      go_simp
                                      refine hK.out _ _ ?_ (fun hHeld => ?_)
                                      · exact HSY.out _ HTE.out
                                      clear hK K
                                      (try simp only [Act.put, List.setIfInBounds_toArray, List.set_cons_zero, List.set_cons_succ])
                                      refine wpAnyH_done (by kernel_rfl) ?_ _
                                      go_wp2_with fail
                                      go_meet
                                      exact ⟨cb, rfl, rfl, HABE.out, HBE.out, HTE.out, HPE.out.fresh (Only.refl _ _) (fun k x => ⟨Or.inl (Or.inl (Or.inl x)), HPE.out.kl k (Or.inl (Or.inl x))⟩)⟩
                                    exact AllReadyH.nil
                                  exact AllReadyH.nil
                                exact AllReadyH.nil
                              exact AllReadyH.nil
                            case rest =>
                              obtain ⟨cb, rfl, rfl, hba, hbb, ht, hp⟩ := hcut
                              have HT9 := Lib.hid ht
                              have HP9 := Lib.hid hp
                              obtain ⟨g0, g1⟩ : wc.cell? ⟨ab, 0, none⟩ = some (.int .i64 p8) ∧ wc.cell? ⟨ab, 1, none⟩ = some (.int .i64 s8) := ⟨by rw [cell_of hba]; rfl, by rw [cell_of hba]; rfl⟩
                              obtain ⟨k0, k1⟩ : wc.cell? ⟨cb, 0, none⟩ = some (.int .i64 p8) ∧ wc.cell? ⟨cb, 1, none⟩ = some (.int .i64 s8) := ⟨by rw [cell_of hbb]; rfl, by rw [cell_of hbb]; rfl⟩
                              have HR9 := Lib.hid (HRD.out wc ht)
                              obtain ⟨b0, b1, b2, b3, b4, b5⟩ := box_cells HR9.out.b6
                              obtain ⟨c0, c1, c2, c3, c4, c5⟩ := box_cells HR9.out.b7
                              have HSM := Lib.hid (rsame_any u u A2 A1 n2 n1 _ _ wc HR9.out.rd2 HR9.out.rd1 HUB.out HUB.out)
                              rw [sameT_self] at HSM
                              unfold tupV at HSM
                              clear hba hbb ht hp HPREV KIN HINS HSY
                              go_wp2_with fail
                              refine HSM.out.mono ?_
                              rintro e w8 ⟨rfl, hq8⟩
                              have HT8 := Lib.hid (HT9.out.trans' hq8 (fun _ _ x => x.elim))
                              have HP8 := Lib.hid (HP9.out.quietly hq8)
                              have HR8 := Lib.hid (HRD.out w8 HT8.out)
                              obtain ⟨_, _, _, _, _, y5⟩ := box_cells HR8.out.b7
                              clear hq8 HSM g0 g1 k0 k1 b0 b1 b2 b3 b4 b5 c0 c1 c2 c3 c4 c5
                              have HNB : Hid (∀ k, (Value.slice A2 u.data.length n2).ownBlock = some k → k ≠ x7 ∧ k ≠ a1 ∧ k ≠ a2 ∧ k ≠ s0) := fun k e => by
                                obtain ⟨z, hz⟩ := own_blk HR8.out.own2 e
                                exact ⟨ne_type hz HR8.out.b7 (by decide), ne_type hz HR8.out.arr.1 (by decide), ne_type hz HR8.out.arr.2 (by decide), ne_type hz HR8.out.op (by decide)⟩
                              obtain ⟨m, hm⟩ : ∃ m, u.data.length = m := ⟨_, rfl⟩
                              have HM := Lib.hid hm
                              have HOW := Lib.hid HR8.out.own2
                              have HBL : Hid ((bytesV u.data).length = m) := by show (bytesV u.data).length = m; rw [← hm]; simp [bytesV]
                              have hul := HUL.out
                              rw [hm] at HOW HNB hul y5 HK2
                              clear hm
                              go_wp2_with fail
                              go_loopw [119, 22] (fun cq _ wr' => ∃ (q : Nat) (xs : List Value), q ≤ m ∧ cq = .int .i64 (q : Int) ∧ (∀ x ∈ xs, ∃ z : Int, x = .int .u8 z) ∧ wr'.ownsRow 0 5 1 (.slice A2 m n2) m xs ∧ Only (fun k => (Value.slice A2 m n2).ownBlock = some k) w8 wr') (fun cq _ _ => m - (intOf cq).toNat)
                              case atStart => exact ⟨0, bytesV u.data, Nat.zero_le _, rfl, (fun x hx => by obtain ⟨z, _, rfl⟩ := List.mem_map.1 hx; exact ⟨z, rfl⟩), HOW.out, Only.refl _ _⟩
                              case round =>
                                obtain ⟨qq, ys, hq, rfl, hxs, hown, hon⟩ := hrel
                                have HXS := Lib.hid hxs
                                have HOWN := Lib.hid hown
                                have HON := Lib.hid hon
                                have z0 : wr.cell? ⟨x7, 5, none⟩ = some (.slice A2 m n2) := hon.cell y5 (fun e => (HNB.out x7 e).1 rfl)
                                clear hxs hon
                                by_cases hqk : qq < m
                                · rcases owns_cases hown with ⟨_, z⟩ | ⟨g, cp, hv, _, _⟩
                                  · omega
                                  · injection hv with e1 _ e3
                                    subst e1 e3
                                    obtain ⟨x, hx⟩ : ∃ x, ys[qq]? = some x := ⟨_, List.getElem?_eq_getElem (by have := hown.1; omega)⟩
                                    obtain ⟨zv, rfl⟩ := HXS.out x (List.mem_of_getElem? hx)
                                    have r0 : wr.cell? ⟨g, qq, none⟩ = some (.int .u8 zv) := by
                                      have := hown.cells rfl qq _ hx
                                      rw [add_none, Nat.zero_add] at this
                                      exact this
                                    have rf : wr.frozen? ⟨g, qq, none⟩ = false := by
                                      obtain ⟨_, h2⟩ := hown
                                      rcases h2 with ⟨z, _⟩ | ⟨g', cap, cur, hv', _, hh, _⟩
                                      · cases z
                                      · injection hv' with e1' _ _
                                        injection e1' with e1'
                                        injection e1' with e1' _ _
                                        subst e1'
                                        exact frozen_of hh qq
                                    have e2 : (0 : Int) ≤ (qq : Int) := by omega
                                    have e3 : (qq : Int) < (m : Int) := by omega
                                    clear hown hx
                                    go_wp2_with fail
                                    go_roundw
                                    case rel => exact ⟨qq + 1, ys.set qq (.int .u8 (bits BinOp.xor IntKind.u8 zv 1)), by omega, by go_num, (fun x hx => by
                                      rcases List.mem_or_eq_of_mem_set hx with y | y
                                      · exact HXS.out x y
                                      · exact ⟨_, y⟩), owns_put HOWN.out hqk _, HON.out.setCell (p := ⟨g, qq, none⟩) (fun _ => rfl) _⟩
                                    case measure => simp [intOf]; omega
                                · have HFIN := Lib.hid (HP8.out.mine HON.out (fun k e => ⟨HK2.out k e, by have h1 := HK2.out k e; have h2 := HSZ.out; have h3 := HLA.out; omega⟩))
                                  have HFA := Lib.hid (HR8.out.arr.kept HON.out (fun e => (HNB.out a1 e).2.1 rfl) (fun e => (HNB.out a2 e).2.2.1 rfl))
                                  have HFO := Lib.hid (HON.out.get HR8.out.op (fun e => (HNB.out s0 e).2.2.2 rfl))
                                  clear hown
                                  go_wp2_with fail
                                  go_meet
                                  exact ⟨rfl, _, _, HFIN.out, HFA.out, HFO.out⟩
              case rest =>
                obtain ⟨rfl, Hs2, left2, hP2, hA2, hO2⟩ := hcut
                have HP2 := Lib.hid hP2
                have HA2 := Lib.hid hA2
                have HO2 := Lib.hid hO2
                clear hP2 hA2 hO2
                as_aux_lemma =>
                  have hq0 : (0 : Int) ≤ (q : Int) := by omega
                  have hq1 : (q : Int) < 2 := by have := HKN.out; omega
                  have HPC := Lib.hid (fun (W : World) (hq : Quiet wc W) => HP2.out.quietly hq)
                  have HSX : Hid (∀ W, Quiet wc W → (fun w' => w'.cell? ⟨qb, 0, none⟩ = some (.int .i64 (left2 : Int)) ∧ w'.cell? ⟨a1, 0, none⟩ = some (.pointer (adr (hs false))) ∧ w'.cell? ⟨a1, 1, none⟩ = some (.pointer (adr (hs true))) ∧ w'.cell? ⟨a2, 0, none⟩ = some (.pointer (adr (xs false))) ∧ w'.cell? ⟨a2, 1, none⟩ = some (.pointer (adr (xs true))) ∧ w'.cell? ⟨a1, q, none⟩ = some (.pointer (adr (hs two))) ∧ w'.cell? ⟨a2, q, none⟩ = some (.pointer (adr (xs two))) ∧ w'.cell? ⟨s0, 2, none⟩ = some (.int .i64 pg) ∧ w'.cell? ⟨s0, 3, none⟩ = some (.int .i64 sl)) W) := fun W hq => by
                    have ha := HA2.out.kept hq (fun x => x) (fun x => x)
                    have ho := hq.get HO2.out (fun x => x)
                    refine ⟨(HPC.out W hq).rpool.cell, by rw [cell_of ha.1]; rfl, by rw [cell_of ha.1]; rfl, by rw [cell_of ha.2]; rfl, by rw [cell_of ha.2]; rfl, ?_, ?_, by rw [cell_of ho]; rfl, by rw [cell_of ho]; rfl⟩
                    · rw [cell_of ha.1, ← HKQ.out]; cases two <;> rfl
                    · rw [cell_of ha.2, ← HKQ.out]; cases two <;> rfl
                  obtain ⟨lc, hlc⟩ : ∃ lc, (if (hs two).isSome then chainH (Hs2 two) (pg, sl) else []) = lc := ⟨_, rfl⟩
                  have HC1 : Hid (∀ W, Quiet wc W → Calls Try.prog 52 #[.pointer (adr (hs two)), .agg #[.int .i64 pg, .int .i64 sl]] W (ChainPost W lc)) := fun W hq => by rw [← hlc]; exact (HPC.out W hq).chainHeap two (pg, sl) HWFP.out
                  have HC2 : Hid (∀ W, Quiet wc W → Calls Try.prog 58 #[.pointer (adr (xs two)), .agg #[.int .i64 pg, .int .i64 sl]] W (ChainPost W lc)) := fun W hq => by rw [← hlc]; exact (HPC.out W hq).chainX two (pg, sl)
                  clear hlc HP2 HPJ HRD HK1 HK2 HA0 HPW HAR
                  go_upto_region 37 with fail
                  refine wp_region_held_drew (S := (fun w' => w'.cell? ⟨qb, 0, none⟩ = some (.int .i64 (left2 : Int)) ∧ w'.cell? ⟨a1, 0, none⟩ = some (.pointer (adr (hs false))) ∧ w'.cell? ⟨a1, 1, none⟩ = some (.pointer (adr (hs true))) ∧ w'.cell? ⟨a2, 0, none⟩ = some (.pointer (adr (xs false))) ∧ w'.cell? ⟨a2, 1, none⟩ = some (.pointer (adr (xs true))) ∧ w'.cell? ⟨a1, q, none⟩ = some (.pointer (adr (hs two))) ∧ w'.cell? ⟨a2, q, none⟩ = some (.pointer (adr (xs two))) ∧ w'.cell? ⟨s0, 2, none⟩ = some (.int .i64 pg) ∧ w'.cell? ⟨s0, 3, none⟩ = some (.int .i64 sl))) (by kernel_rfl) (HSX.out _ ((Only.refl (fun _ => False) wc).drew)) (fun hHeld => ?_)
                  simp only [List.size_toArray, List.length_cons, List.length_nil, Nat.reduceAdd]
                  (refine wpAnyH_take (i := 0) (oi := ?_) (v := ?_) ?_ (by kernel_rfl) (by decide +kernel) (by decide +kernel) ?_ (Or.inl ⟨?_, ?_⟩) (by first | assumption | exact trivial) ?_; rotate_left 2; (focus (simp only [List.getElem?_toArray, List.getElem?_cons_zero, List.getElem?_cons_succ] <;> rfl)); (focus (exact fun _ _ _ h => h)); (focus rfl); (focus (intro w hSw; (try dsimp only at hSw); go_simp; (try with_reducible rfl); done)); (try simp only [Act.put, List.setIfInBounds_toArray, List.set_cons_zero, List.set_cons_succ]))
                  (refine wpAnyH_take (i := 1) (oi := ?_) (v := ?_) ?_ (by kernel_rfl) (by decide +kernel) (by decide +kernel) ?_ (Or.inl ⟨?_, ?_⟩) (by first | assumption | exact trivial) ?_; rotate_left 2; (focus (simp only [List.getElem?_toArray, List.getElem?_cons_zero, List.getElem?_cons_succ] <;> rfl)); (focus (exact fun _ _ _ h => h)); (focus rfl); (focus (intro w hSw; (try dsimp only at hSw); go_simp; (try with_reducible rfl); done)); (try simp only [Act.put, List.setIfInBounds_toArray, List.set_cons_zero, List.set_cons_succ]))
                  (refine wpAnyH_take (i := 2) (oi := ?_) (v := ?_) ?_ (by kernel_rfl) (by decide +kernel) (by decide +kernel) ?_ (Or.inl ⟨?_, ?_⟩) (by first | assumption | exact trivial) ?_; rotate_left 2; (focus (simp only [List.getElem?_toArray, List.getElem?_cons_zero, List.getElem?_cons_succ] <;> rfl)); (focus (exact fun _ _ _ h => h)); (focus rfl); (focus (intro w hSw; (try dsimp only at hSw); go_simp; (try with_reducible rfl); done)); (try simp only [Act.put, List.setIfInBounds_toArray, List.set_cons_zero, List.set_cons_succ]))
                  (refine wpAnyH_take (i := 3) (oi := ?_) (v := ?_) ?_ (by kernel_rfl) (by decide +kernel) (by decide +kernel) ?_ (Or.inl ⟨?_, ?_⟩) (by first | assumption | exact trivial) ?_; rotate_left 2; (focus (simp only [List.getElem?_toArray, List.getElem?_cons_zero, List.getElem?_cons_succ] <;> rfl)); (focus (exact fun _ _ _ h => h)); (focus rfl); (focus (intro w hSw; (try dsimp only at hSw); go_simp; (try with_reducible rfl); done)); (try simp only [Act.put, List.setIfInBounds_toArray, List.set_cons_zero, List.set_cons_succ]))
                  (refine wpAnyH_take (i := 5) (oi := ?_) (v := ?_) ?_ (by kernel_rfl) (by decide +kernel) (by decide +kernel) ?_ (Or.inl ⟨?_, ?_⟩) (by first | assumption | exact trivial) ?_; rotate_left 2; (focus (simp only [List.getElem?_toArray, List.getElem?_cons_zero, List.getElem?_cons_succ] <;> rfl)); (focus (exact fun _ _ _ h => h)); (focus rfl); (focus (intro w hSw; (try dsimp only at hSw); go_simp; (try with_reducible rfl); done)); (try simp only [Act.put, List.setIfInBounds_toArray, List.set_cons_zero, List.set_cons_succ]))
                  (refine wpAnyH_take (i := 6) (oi := ?_) (v := ?_) ?_ (by kernel_rfl) (by decide +kernel) (by decide +kernel) ?_ (Or.inl ⟨?_, ?_⟩) (by first | assumption | exact trivial) ?_; rotate_left 2; (focus (simp only [List.getElem?_toArray, List.getElem?_cons_zero, List.getElem?_cons_succ] <;> rfl)); (focus (exact fun _ _ _ h => h)); (focus rfl); (focus (intro w hSw; (try dsimp only at hSw); go_simp; (try with_reducible rfl); done)); (try simp only [Act.put, List.setIfInBounds_toArray, List.set_cons_zero, List.set_cons_succ]))
                  (refine wpAnyH_take (i := 7) (oi := ?_) (v := ?_) ?_ (by kernel_rfl) (by decide +kernel) (by decide +kernel) ?_ (Or.inl ⟨?_, ?_⟩) (by first | assumption | exact trivial) ?_; rotate_left 2; (focus (simp only [List.getElem?_toArray, List.getElem?_cons_zero, List.getElem?_cons_succ] <;> rfl)); (focus (exact fun _ _ _ h => h)); (focus rfl); (focus (intro w hSw; (try dsimp only at hSw); go_simp; (try with_reducible rfl); done)); (try simp only [Act.put, List.setIfInBounds_toArray, List.set_cons_zero, List.set_cons_succ]))
                  (refine wpAnyH_take (i := 8) (oi := ?_) (v := ?_) ?_ (by kernel_rfl) (by decide +kernel) (by decide +kernel) ?_ (Or.inl ⟨?_, ?_⟩) (by first | assumption | exact trivial) ?_; rotate_left 2; (focus (simp only [List.getElem?_toArray, List.getElem?_cons_zero, List.getElem?_cons_succ] <;> rfl)); (focus (exact fun _ _ _ h => h)); (focus rfl); (focus (intro w hSw; (try dsimp only at hSw); go_simp; (try with_reducible rfl); done)); (try simp only [Act.put, List.setIfInBounds_toArray, List.set_cons_zero, List.set_cons_succ]))
                  refine wpAnyH_ready (rs := [4]) (by kernel_rfl) (by simp) ?_
                  refine AllReadyH.cons (o := ?_) ?_ ?_ AllReadyH.nil
                  rotate_left 1
                  (focus (simp only [List.getElem?_toArray, List.getElem?_cons_zero, List.getElem?_cons_succ] <;> rfl))
                  intro K hK
                  go_simp
                  go_at_call 45
                  refine ((HPC.out _ (Only.refl (fun _ => False) wc).drew).poolLeft).mono ?_
                  rintro e w6 ⟨rfl, rfl⟩
                  dsimp only
                  refine hK.out _ _ ?_ (fun hHeld => ?_)
                  · exact HSX.out _ ((Only.refl (fun _ => False) wc).drew)
                  clear hK K
                  (try simp only [Act.put, List.setIfInBounds_toArray, List.set_cons_zero, List.set_cons_succ])
                  (refine wpAnyH_take (i := 9) (oi := ?_) (v := ?_) ?_ (by kernel_rfl) (by decide +kernel) (by decide +kernel) ?_ (Or.inl ⟨?_, ?_⟩) (by first | assumption | exact trivial) ?_; rotate_left 2; (focus (simp only [List.getElem?_toArray, List.getElem?_cons_zero, List.getElem?_cons_succ] <;> rfl)); (focus (exact fun _ _ _ h => h)); (focus rfl); (focus (intro w hSw; (try dsimp only at hSw); go_simp; (try with_reducible rfl); done)); (try simp only [Act.put, List.setIfInBounds_toArray, List.set_cons_zero, List.set_cons_succ]))
                  (refine wpAnyH_take (i := 10) (oi := ?_) (v := ?_) ?_ (by kernel_rfl) (by decide +kernel) (by decide +kernel) ?_ (Or.inl ⟨?_, ?_⟩) (by first | assumption | exact trivial) ?_; rotate_left 2; (focus (simp only [List.getElem?_toArray, List.getElem?_cons_zero, List.getElem?_cons_succ] <;> rfl)); (focus (exact fun _ _ _ h => h)); (focus rfl); (focus (intro w hSw; (try dsimp only at hSw); go_simp; (try with_reducible rfl); done)); (try simp only [Act.put, List.setIfInBounds_toArray, List.set_cons_zero, List.set_cons_succ]))
                  (refine wpAnyH_take (i := 11) (oi := ?_) (v := ?_) ?_ (by kernel_rfl) (by decide +kernel) (by decide +kernel) ?_ (Or.inl ⟨?_, ?_⟩) (by first | assumption | exact trivial) ?_; rotate_left 2; (focus (simp only [List.getElem?_toArray, List.getElem?_cons_zero, List.getElem?_cons_succ] <;> rfl)); (focus (exact fun _ _ _ h => h)); (focus rfl); (focus (intro w hSw; (try dsimp only at hSw); go_simp; (try with_reducible rfl); done)); (try simp only [Act.put, List.setIfInBounds_toArray, List.set_cons_zero, List.set_cons_succ]))
                  (refine wpAnyH_take (i := 12) (oi := ?_) (v := ?_) ?_ (by kernel_rfl) (by decide +kernel) (by decide +kernel) ?_ (Or.inl ⟨?_, ?_⟩) (by first | assumption | exact trivial) ?_; rotate_left 2; (focus (simp only [List.getElem?_toArray, List.getElem?_cons_zero, List.getElem?_cons_succ] <;> rfl)); (focus (exact fun _ _ _ h => h)); (focus rfl); (focus (intro w hSw; (try dsimp only at hSw); go_simp; (try with_reducible rfl); done)); (try simp only [Act.put, List.setIfInBounds_toArray, List.set_cons_zero, List.set_cons_succ]))
                  (refine wpAnyH_take (i := 13) (oi := ?_) (v := ?_) ?_ (by kernel_rfl) (by decide +kernel) (by decide +kernel) ?_ (Or.inl ⟨?_, ?_⟩) (by first | assumption | exact trivial) ?_; rotate_left 2; (focus (simp only [List.getElem?_toArray, List.getElem?_cons_zero, List.getElem?_cons_succ] <;> rfl)); (focus (exact fun _ _ _ h => h)); (focus rfl); (focus (intro w hSw; (try dsimp only at hSw); go_simp; (try with_reducible rfl); done)); (try simp only [Act.put, List.setIfInBounds_toArray, List.set_cons_zero, List.set_cons_succ]))
                  (refine wpAnyH_take (i := 14) (oi := ?_) (v := ?_) ?_ (by kernel_rfl) (by decide +kernel) (by decide +kernel) ?_ (Or.inl ⟨?_, ?_⟩) (by first | assumption | exact trivial) ?_; rotate_left 2; (focus (simp only [List.getElem?_toArray, List.getElem?_cons_zero, List.getElem?_cons_succ] <;> rfl)); (focus (exact fun _ _ _ h => h)); (focus rfl); (focus (intro w hSw; (try dsimp only at hSw); go_simp; (try with_reducible rfl); done)); (try simp only [Act.put, List.setIfInBounds_toArray, List.set_cons_zero, List.set_cons_succ]))
                  (refine wpAnyH_take (i := 15) (oi := ?_) (v := ?_) ?_ (by kernel_rfl) (by decide +kernel) (by decide +kernel) ?_ (Or.inl ⟨?_, ?_⟩) (by first | assumption | exact trivial) ?_; rotate_left 2; (focus (simp only [List.getElem?_toArray, List.getElem?_cons_zero, List.getElem?_cons_succ] <;> rfl)); (focus (exact fun _ _ _ h => h)); (focus rfl); (focus (intro w hSw; (try dsimp only at hSw); go_simp; (try with_reducible rfl); done)); (try simp only [Act.put, List.setIfInBounds_toArray, List.set_cons_zero, List.set_cons_succ]))
                  refine wpAnyH_ready (rs := [16]) (by kernel_rfl) (by simp) ?_
                  refine AllReadyH.cons (o := ?_) ?_ ?_ AllReadyH.nil
                  rotate_left 1
                  (focus (simp only [List.getElem?_toArray, List.getElem?_cons_zero, List.getElem?_cons_succ] <;> rfl))
                  intro K hK
                  go_simp
                  go_at_call 57
                  refine ((HPC.out _ (Only.refl (fun _ => False) wc).drew).alike false).mono ?_
                  rintro e w7 ⟨rfl, hq7⟩
                  have HQ7 := Lib.hid ((Only.refl (fun _ => False) wc).drew.trans hq7)
                  clear hq7
                  dsimp only
                  refine hK.out _ _ ?_ (fun hHeld => ?_)
                  · exact HSX.out _ HQ7.out
                  clear hK K
                  (try simp only [Act.put, List.setIfInBounds_toArray, List.set_cons_zero, List.set_cons_succ])
                  (refine wpAnyH_take (i := 17) (oi := ?_) (v := ?_) ?_ (by kernel_rfl) (by decide +kernel) (by decide +kernel) ?_ (Or.inl ⟨?_, ?_⟩) (by first | assumption | exact trivial) ?_; rotate_left 2; (focus (simp only [List.getElem?_toArray, List.getElem?_cons_zero, List.getElem?_cons_succ] <;> rfl)); (focus (exact fun _ _ _ h => h)); (focus rfl); (focus (intro w hSw; (try dsimp only at hSw); go_simp; (try with_reducible rfl); done)); (try simp only [Act.put, List.setIfInBounds_toArray, List.set_cons_zero, List.set_cons_succ]))
                  (refine wpAnyH_take (i := 18) (oi := ?_) (v := ?_) ?_ (by kernel_rfl) (by decide +kernel) (by decide +kernel) ?_ (Or.inl ⟨?_, ?_⟩) (by first | assumption | exact trivial) ?_; rotate_left 2; (focus (simp only [List.getElem?_toArray, List.getElem?_cons_zero, List.getElem?_cons_succ] <;> rfl)); (focus (exact fun _ _ _ h => h)); (focus rfl); (focus (intro w hSw; (try dsimp only at hSw); go_simp; (try with_reducible rfl); done)); (try simp only [Act.put, List.setIfInBounds_toArray, List.set_cons_zero, List.set_cons_succ]))
                  (refine wpAnyH_take (i := 19) (oi := ?_) (v := ?_) ?_ (by kernel_rfl) (by decide +kernel) (by decide +kernel) ?_ (Or.inl ⟨?_, ?_⟩) (by first | assumption | exact trivial) ?_; rotate_left 2; (focus (simp only [List.getElem?_toArray, List.getElem?_cons_zero, List.getElem?_cons_succ] <;> rfl)); (focus (exact fun _ _ _ h => h)); (focus rfl); (focus (intro w hSw; (try dsimp only at hSw); go_simp; (try with_reducible rfl); done)); (try simp only [Act.put, List.setIfInBounds_toArray, List.set_cons_zero, List.set_cons_succ]))
                  (refine wpAnyH_take (i := 20) (oi := ?_) (v := ?_) ?_ (by kernel_rfl) (by decide +kernel) (by decide +kernel) ?_ (Or.inl ⟨?_, ?_⟩) (by first | assumption | exact trivial) ?_; rotate_left 2; (focus (simp only [List.getElem?_toArray, List.getElem?_cons_zero, List.getElem?_cons_succ] <;> rfl)); (focus (exact fun _ _ _ h => h)); (focus rfl); (focus (intro w hSw; (try dsimp only at hSw); go_simp; (try with_reducible rfl); done)); (try simp only [Act.put, List.setIfInBounds_toArray, List.set_cons_zero, List.set_cons_succ]))
                  (refine wpAnyH_take (i := 21) (oi := ?_) (v := ?_) ?_ (by kernel_rfl) (by decide +kernel) (by decide +kernel) ?_ (Or.inl ⟨?_, ?_⟩) (by first | assumption | exact trivial) ?_; rotate_left 2; (focus (simp only [List.getElem?_toArray, List.getElem?_cons_zero, List.getElem?_cons_succ] <;> rfl)); (focus (exact fun _ _ _ h => h)); (focus rfl); (focus (intro w hSw; (try dsimp only at hSw); go_simp; (try with_reducible rfl); done)); (try simp only [Act.put, List.setIfInBounds_toArray, List.set_cons_zero, List.set_cons_succ]))
                  (refine wpAnyH_take (i := 22) (oi := ?_) (v := ?_) ?_ (by kernel_rfl) (by decide +kernel) (by decide +kernel) ?_ (Or.inl ⟨?_, ?_⟩) (by first | assumption | exact trivial) ?_; rotate_left 2; (focus (simp only [List.getElem?_toArray, List.getElem?_cons_zero, List.getElem?_cons_succ] <;> rfl)); (focus (exact fun _ _ _ h => h)); (focus rfl); (focus (intro w hSw; (try dsimp only at hSw); go_simp; (try with_reducible rfl); done)); (try simp only [Act.put, List.setIfInBounds_toArray, List.set_cons_zero, List.set_cons_succ]))
                  (refine wpAnyH_take (i := 23) (oi := ?_) (v := ?_) ?_ (by kernel_rfl) (by decide +kernel) (by decide +kernel) ?_ (Or.inl ⟨?_, ?_⟩) (by first | assumption | exact trivial) ?_; rotate_left 2; (focus (simp only [List.getElem?_toArray, List.getElem?_cons_zero, List.getElem?_cons_succ] <;> rfl)); (focus (exact fun _ _ _ h => h)); (focus rfl); (focus (intro w hSw; (try dsimp only at hSw); go_simp; (try with_reducible rfl); done)); (try simp only [Act.put, List.setIfInBounds_toArray, List.set_cons_zero, List.set_cons_succ]))
                  refine wpAnyH_ready (rs := [24]) (by kernel_rfl) (by simp) ?_
                  refine AllReadyH.cons (o := ?_) ?_ ?_ AllReadyH.nil
                  rotate_left 1
                  (focus (simp only [List.getElem?_toArray, List.getElem?_cons_zero, List.getElem?_cons_succ] <;> rfl))
                  intro K hK
                  go_simp
                  go_at_call 57
                  refine ((HPC.out _ HQ7.out).alike true).mono ?_
                  rintro e w8 ⟨rfl, hq8⟩
                  have HQ8 := Lib.hid (HQ7.out.trans hq8)
                  clear hq8 HQ7
                  dsimp only
                  refine hK.out _ _ ?_ (fun hHeld => ?_)
                  · exact HSX.out _ HQ8.out
                  clear hK K
                  (try simp only [Act.put, List.setIfInBounds_toArray, List.set_cons_zero, List.set_cons_succ])
                  (refine wpAnyH_take (i := 25) (oi := ?_) (v := ?_) ?_ (by kernel_rfl) (by decide +kernel) (by decide +kernel) ?_ (Or.inl ⟨?_, ?_⟩) (by first | assumption | exact trivial) ?_; rotate_left 2; (focus (simp only [List.getElem?_toArray, List.getElem?_cons_zero, List.getElem?_cons_succ] <;> rfl)); (focus (exact fun _ _ _ h => h)); (focus rfl); (focus (intro w hSw; (try dsimp only at hSw); go_simp; (try with_reducible rfl); done)); (try simp only [Act.put, List.setIfInBounds_toArray, List.set_cons_zero, List.set_cons_succ]))
                  (refine wpAnyH_take (i := 26) (oi := ?_) (v := ?_) ?_ (by kernel_rfl) (by decide +kernel) (by decide +kernel) ?_ (Or.inl ⟨?_, ?_⟩) (by first | assumption | exact trivial) ?_; rotate_left 2; (focus (simp only [List.getElem?_toArray, List.getElem?_cons_zero, List.getElem?_cons_succ] <;> rfl)); (focus (exact fun _ _ _ h => h)); (focus rfl); (focus (intro w hSw; (try dsimp only at hSw); go_simp; (try with_reducible rfl); done)); (try simp only [Act.put, List.setIfInBounds_toArray, List.set_cons_zero, List.set_cons_succ]))
                  (refine wpAnyH_take (i := 27) (oi := ?_) (v := ?_) ?_ (by kernel_rfl) (by decide +kernel) (by decide +kernel) ?_ (Or.inl ⟨?_, ?_⟩) (by first | assumption | exact trivial) ?_; rotate_left 2; (focus (simp only [List.getElem?_toArray, List.getElem?_cons_zero, List.getElem?_cons_succ] <;> rfl)); (focus (exact fun _ _ _ h => h)); (focus rfl); (focus (intro w hSw; (try dsimp only at hSw); go_simp; (try with_reducible rfl); done)); (try simp only [Act.put, List.setIfInBounds_toArray, List.set_cons_zero, List.set_cons_succ]))
                  (refine wpAnyH_take (i := 28) (oi := ?_) (v := ?_) ?_ (by kernel_rfl) (by decide +kernel) (by decide +kernel) ?_ (Or.inl ⟨?_, ?_⟩) (by first | assumption | exact trivial) ?_; rotate_left 2; (focus (simp only [List.getElem?_toArray, List.getElem?_cons_zero, List.getElem?_cons_succ] <;> rfl)); (focus (exact fun _ _ _ h => h)); (focus rfl); (focus (intro w hSw; (try dsimp only at hSw); go_simp; (try with_reducible rfl); done)); (try simp only [Act.put, List.setIfInBounds_toArray, List.set_cons_zero, List.set_cons_succ]))
                  (refine wpAnyH_take (i := 29) (oi := ?_) (v := ?_) ?_ (by kernel_rfl) (by decide +kernel) (by decide +kernel) ?_ (Or.inl ⟨?_, ?_⟩) (by first | assumption | exact trivial) ?_; rotate_left 2; (focus (simp only [List.getElem?_toArray, List.getElem?_cons_zero, List.getElem?_cons_succ] <;> rfl)); (focus (exact fun _ _ _ h => h)); (focus rfl); (focus (intro w hSw; (try dsimp only at hSw); go_simp; (try with_reducible rfl); done)); (try simp only [Act.put, List.setIfInBounds_toArray, List.set_cons_zero, List.set_cons_succ]))
                  (refine wpAnyH_take (i := 30) (oi := ?_) (v := ?_) ?_ (by kernel_rfl) (by decide +kernel) (by decide +kernel) ?_ (Or.inl ⟨?_, ?_⟩) (by first | assumption | exact trivial) ?_; rotate_left 2; (focus (simp only [List.getElem?_toArray, List.getElem?_cons_zero, List.getElem?_cons_succ] <;> rfl)); (focus (exact fun _ _ _ h => h)); (focus rfl); (focus (intro w hSw; (try dsimp only at hSw); go_simp; (try with_reducible rfl); done)); (try simp only [Act.put, List.setIfInBounds_toArray, List.set_cons_zero, List.set_cons_succ]))
                  (refine wpAnyH_take (i := 31) (oi := ?_) (v := ?_) ?_ (by kernel_rfl) (by decide +kernel) (by decide +kernel) ?_ (Or.inl ⟨?_, ?_⟩) (by first | assumption | exact trivial) ?_; rotate_left 2; (focus (simp only [List.getElem?_toArray, List.getElem?_cons_zero, List.getElem?_cons_succ] <;> rfl)); (focus (exact fun _ _ _ h => h)); (focus rfl); (focus (intro w hSw; (try dsimp only at hSw); go_simp; (try with_reducible rfl); done)); (try simp only [Act.put, List.setIfInBounds_toArray, List.set_cons_zero, List.set_cons_succ]))
                  (refine wpAnyH_take (i := 32) (oi := ?_) (v := ?_) ?_ (by kernel_rfl) (by decide +kernel) (by decide +kernel) ?_ (Or.inl ⟨?_, ?_⟩) (by first | assumption | exact trivial) ?_; rotate_left 2; (focus (simp only [List.getElem?_toArray, List.getElem?_cons_zero, List.getElem?_cons_succ] <;> rfl)); (focus (exact fun _ _ _ h => h)); (focus rfl); (focus (intro w hSw; (try dsimp only at hSw); go_simp; (try with_reducible rfl); done)); (try simp only [Act.put, List.setIfInBounds_toArray, List.set_cons_zero, List.set_cons_succ]))
                  (refine wpAnyH_take (i := 34) (oi := ?_) (v := ?_) ?_ (by kernel_rfl) (by decide +kernel) (by decide +kernel) ?_ (Or.inl ⟨?_, ?_⟩) (by first | assumption | exact trivial) ?_; rotate_left 2; (focus (simp only [List.getElem?_toArray, List.getElem?_cons_zero, List.getElem?_cons_succ] <;> rfl)); (focus (exact fun _ _ _ h => h)); (focus rfl); (focus (intro w hSw; (try dsimp only at hSw); go_simp; (try with_reducible rfl); done)); (try simp only [Act.put, List.setIfInBounds_toArray, List.set_cons_zero, List.set_cons_succ]))
                  (refine wpAnyH_take (i := 35) (oi := ?_) (v := ?_) ?_ (by kernel_rfl) (by decide +kernel) (by decide +kernel) ?_ (Or.inl ⟨?_, ?_⟩) (by first | assumption | exact trivial) ?_; rotate_left 2; (focus (simp only [List.getElem?_toArray, List.getElem?_cons_zero, List.getElem?_cons_succ] <;> rfl)); (focus (exact fun _ _ _ h => h)); (focus rfl); (focus (intro w hSw; (try dsimp only at hSw); go_simp; (try with_reducible rfl); done)); (try simp only [Act.put, List.setIfInBounds_toArray, List.set_cons_zero, List.set_cons_succ]))
                  (refine wpAnyH_take (i := 36) (oi := ?_) (v := ?_) ?_ (by kernel_rfl) (by decide +kernel) (by decide +kernel) ?_ (Or.inl ⟨?_, ?_⟩) (by first | assumption | exact trivial) ?_; rotate_left 2; (focus (simp only [List.getElem?_toArray, List.getElem?_cons_zero, List.getElem?_cons_succ] <;> rfl)); (focus (exact fun _ _ _ h => h)); (focus rfl); (focus (intro w hSw; (try dsimp only at hSw); go_simp; (try with_reducible rfl); done)); (try simp only [Act.put, List.setIfInBounds_toArray, List.set_cons_zero, List.set_cons_succ]))
                  (refine wpAnyH_take (i := 37) (oi := ?_) (v := ?_) ?_ (by kernel_rfl) (by decide +kernel) (by decide +kernel) ?_ (Or.inl ⟨?_, ?_⟩) (by first | assumption | exact trivial) ?_; rotate_left 2; (focus (simp only [List.getElem?_toArray, List.getElem?_cons_zero, List.getElem?_cons_succ] <;> rfl)); (focus (exact fun _ _ _ h => h)); (focus rfl); (focus (intro w hSw; (try dsimp only at hSw); go_simp; (try with_reducible rfl); done)); (try simp only [Act.put, List.setIfInBounds_toArray, List.set_cons_zero, List.set_cons_succ]))
                  (refine wpAnyH_take (i := 38) (oi := ?_) (v := ?_) ?_ (by kernel_rfl) (by decide +kernel) (by decide +kernel) ?_ (Or.inl ⟨?_, ?_⟩) (by first | assumption | exact trivial) ?_; rotate_left 2; (focus (simp only [List.getElem?_toArray, List.getElem?_cons_zero, List.getElem?_cons_succ] <;> rfl)); (focus (exact fun _ _ _ h => h)); (focus rfl); (focus (intro w hSw; (try dsimp only at hSw); go_simp; (try with_reducible rfl); done)); (try simp only [Act.put, List.setIfInBounds_toArray, List.set_cons_zero, List.set_cons_succ]))
                  refine wpAnyH_ready (rs := [33]) (by kernel_rfl) (by simp) ?_
                  refine AllReadyH.cons (o := ?_) ?_ ?_ AllReadyH.nil
                  rotate_left 1
                  (focus (simp only [List.getElem?_toArray, List.getElem?_cons_zero, List.getElem?_cons_succ] <;> rfl))
                  intro K hK
                  go_simp
                  go_at_call 52
                  refine (HC1.out _ HQ8.out).mono ?_
                  rintro e w9 ⟨v9, rfl, hq9, _, hr9⟩
                  have HR9 := Lib.hid hr9
                  have HQ9 := Lib.hid (HQ8.out.trans hq9)
                  clear hr9 hq9 HQ8
                  dsimp only
                  refine hK.out _ _ ?_ (fun hHeld => ?_)
                  · exact HSX.out _ HQ9.out
                  clear hK K
                  (try simp only [Act.put, List.setIfInBounds_toArray, List.set_cons_zero, List.set_cons_succ])
                  refine wpAnyH_ready (rs := [39]) (by kernel_rfl) (by simp) ?_
                  refine AllReadyH.cons (o := ?_) ?_ ?_ AllReadyH.nil
                  rotate_left 1
                  (focus (simp only [List.getElem?_toArray, List.getElem?_cons_zero, List.getElem?_cons_succ] <;> rfl))
                  intro K hK
                  go_simp
                  go_at_call 58
                  refine (HC2.out _ HQ9.out).mono ?_
                  rintro e w10 ⟨v10, rfl, hq10, _, hr10⟩
                  have HSP := Lib.hid (same_places v9 v10 lc lc w10 (owns_kept HR9.out hq10 (fun _ _ x => x)) hr10)
                  rw [decide_eq_true rfl] at HSP
                  have HQ10 := Lib.hid (HQ9.out.trans hq10)
                  clear hr10 hq10 HQ9 HR9
                  dsimp only
                  refine hK.out _ _ ?_ (fun hHeld => ?_)
                  · exact HSX.out _ HQ10.out
                  clear hK K
                  (try simp only [Act.put, List.setIfInBounds_toArray, List.set_cons_zero, List.set_cons_succ])
                  refine wpAnyH_ready (rs := [40]) (by kernel_rfl) (by simp) ?_
                  refine AllReadyH.cons (o := ?_) ?_ ?_ AllReadyH.nil
                  rotate_left 1
                  (focus (simp only [List.getElem?_toArray, List.getElem?_cons_zero, List.getElem?_cons_succ] <;> rfl))
                  intro K hK
                  go_simp
                  go_at_call 51
                  refine (HSP.out).mono ?_
                  rintro e w11 ⟨rfl, m11, rfl⟩
                  have HQ11 := Lib.hid (HQ10.out.trans ((Only.refl (fun _ => False) w10).drewN m11))
                  clear HQ10 HSP
                  dsimp only
                  refine hK.out _ _ ?_ (fun hHeld => ?_)
                  · exact HSX.out _ HQ11.out
                  clear hK K
                  (try simp only [Act.put, List.setIfInBounds_toArray, List.set_cons_zero, List.set_cons_succ])
                  (refine wpAnyH_take (i := 41) (oi := ?_) (v := ?_) ?_ (by kernel_rfl) (by decide +kernel) (by decide +kernel) ?_ (Or.inl ⟨?_, ?_⟩) (by first | assumption | exact trivial) ?_; rotate_left 2; (focus (simp only [List.getElem?_toArray, List.getElem?_cons_zero, List.getElem?_cons_succ] <;> rfl)); (focus (exact fun _ _ _ h => h)); (focus rfl); (focus (intro w hSw; (try dsimp only at hSw); go_simp; (try with_reducible rfl); done)); (try simp only [Act.put, List.setIfInBounds_toArray, List.set_cons_zero, List.set_cons_succ]))
                  (refine wpAnyH_take (i := 42) (oi := ?_) (v := ?_) ?_ (by kernel_rfl) (by decide +kernel) (by decide +kernel) ?_ (Or.inl ⟨?_, ?_⟩) (by first | assumption | exact trivial) ?_; rotate_left 2; (focus (simp only [List.getElem?_toArray, List.getElem?_cons_zero, List.getElem?_cons_succ] <;> rfl)); (focus (exact fun _ _ _ h => h)); (focus rfl); (focus (intro w hSw; (try dsimp only at hSw); go_simp; (try with_reducible rfl); done)); (try simp only [Act.put, List.setIfInBounds_toArray, List.set_cons_zero, List.set_cons_succ]))
                  refine wpAnyH_done (by kernel_rfl) ?_ _
                  have HPF := Lib.hid ((HPC.out _ HQ11.out).fresh (K' := fun k => k = a1 ∨ k = a2) (Only.refl _ _) (fun k x => ⟨Or.inl (Or.inl x), (HPC.out _ HQ11.out).kl k (Or.inl x)⟩))
                  have HAF := Lib.hid (HA2.out.kept HQ11.out (fun x => x) (fun x => x))
                  clear HSX HC1 HC2 HPC hHeld
                  go_wp2
                  go_roundw
                  case rel => exact ⟨i + 1, Hs2, left2, by omega, by omega, by go_num, HPF.out, HAF.out⟩
                  case measure => simp [intOf]; omega
        · go_wp2
          go_ret
          exact ⟨rfl, onward (Below.refl _ _) (Nat.le_refl _) (HQ.out.alloc _) (fun _ x => x.elim)⟩
      · go_wp2
        go_ret
        exact ⟨rfl, onward (Below.refl _ _) (Nat.le_refl _) HQ.out (fun _ x => x.elim)⟩

open Go.ChangeShapes Go.WideShapes in
set_option maxRecDepth 100000 in
theorem heapPlays_walk {H : Type} {enc : TypeId × Value → H} {r : Reach} {base : Nat} {d0 d1 d2 : DataW H} {p0 p1 p2 : List MemPlace} (v0 v1 v2 : Value) (W : World)
    (o0 : Value.okWide Try.prog W r base 3 v0) (h0 : DataW.Trod enc Try.prog W 0 (fun _ => true) true 3 v0 d0 p0) (o1 : Value.okWide Try.prog W r base 4 v1) (h1 : DataW.Trod enc Try.prog W 0 (fun _ => true) true 4 v1 d1 p1)
    (o2 : Value.okWide Try.prog W r base 69 v2) (h2 : DataW.Trod enc Try.prog W 0 (fun _ => true) true 69 v2 d2 p2) :
    Calls Try.prog 13 #[v0, v1, v2] W fun e w' => e = .returned (.bool true) ∧ Below W.heap.size W w' := by
  obtain ⟨x, rfl, _, _, wx⟩ := open_int Try.underlying3 o0 h0
  obtain ⟨b, rfl⟩ := okWide_bool Try.underlying4 o1
  obtain ⟨A, n, cap, rfl, a1, a2, a3⟩ := open_ops8 o2 h2
  by_cases hx : x < 0 ∨ 256 < x
  · exact heapPlays_bad x b _ W hx
  · obtain ⟨k, rfl⟩ := Int.eq_ofNat_of_zero_le (show 0 ≤ x by omega)
    exact heapPlays_ok k b A n cap W (by omega) a3 a1 a2

end Go.Proofs.Ytbibmgcklilpmaa
