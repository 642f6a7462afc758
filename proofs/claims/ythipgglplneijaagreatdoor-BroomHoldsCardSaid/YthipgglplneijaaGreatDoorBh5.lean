/- The contract of parts: n things in parts. A row of nodes that grows: what build keeps. The contract of build: a tree of entries. slices.Delete of one entry: in place. The contract of the tree's Delete. The contract of the tree's Prune. What the broom asks of a store: dead, Pages, Gather, Unlink, Release. The book of one table: Tables, entries, taken. book.Prune and store.Prune where nothing is dead. CreateIndex of a book of one table. A tree more; a row of numbers that grows. A store of one table: table, Book, Used, Entries. StoreFirst's plain invariants. No condition. -/
import Derived.Test.YthipgglplneijaaGreatDoorBh4
import Derived.BigRegion
import Derived.Deep.CutBlock
set_option maxRecDepth 100000
namespace Go.Lap
def cutAt (n i : Nat) : Nat := n * i / ((n + 7) / 8)
def nparts (n : Nat) : Nat := (n + 7) / 8
def partV (n i : Nat) : List Value := [.int .i64 (cutAt n i : Int), .int .i64 (cutAt n (i + 1) : Int)]
def partsV (n i : Nat) : List Value := (List.range i).flatMap (partV n)
theorem partsV_succ (n i : Nat) : partsV n (i + 1) = partsV n i ++ partV n i := by
 unfold partsV
 rw [List.range_succ, List.flatMap_append]
 simp
theorem partsV_length (n i : Nat) : (partsV n i).length = i * 2 := by
 induction i with
 | zero => rfl
 | succ i ih => rw [partsV_succ, List.length_append, ih]; simp [partV]; omega
theorem partsV_get (n : Nat) : ∀ {k i : Nat}, i < k -> (partsV n k)[i * 2]? = some (.int .i64 (cutAt n i : Int)) /\ (partsV n k)[i * 2 + 1]? = some (.int .i64 (cutAt n (i + 1) : Int))
 | 0, i, h => by omega
 | k + 1, i, h => by
  rw [partsV_succ]
  by_cases x : i < k
  ·have := partsV_get n x
   rw [List.getElem?_append_left (by rw [partsV_length]; omega), List.getElem?_append_left (by rw [partsV_length]; omega)]
   exact this
  ·have : i = k := by omega
   subst this
   rw [List.getElem?_append_right (by rw [partsV_length]; omega), List.getElem?_append_right (by rw [partsV_length]; omega), partsV_length, Nat.sub_self, show i * 2 + 1 - i * 2 = 1 by omega]
   exact ⟨rfl, rfl⟩
theorem cut_zero (n : Nat) : cutAt n 0 = 0 := by unfold cutAt; rw [Nat.mul_zero, Nat.zero_div]
theorem cut_all (n : Nat) : cutAt n (nparts n) = n := by
 unfold cutAt nparts
 rcases Nat.eq_zero_or_pos ((n + 7) / 8) with h | h
 ·rw [h]; simp; omega
 ·exact Nat.mul_div_cancel _ h
theorem cut_step (n i : Nat) : cutAt n i + n / ((n + 7) / 8) <= cutAt n (i + 1) := by
 unfold cutAt
 rcases Nat.eq_zero_or_pos ((n + 7) / 8) with h | h
 ·rw [h]; simp
 ·rw [Nat.le_div_iff_mul_le h, Nat.add_mul, Nat.mul_add, Nat.mul_one]
  have h1 := Nat.div_mul_le_self (n * i) ((n + 7) / 8)
  have h2 := Nat.div_mul_le_self n ((n + 7) / 8)
  omega
theorem cut_mono (n : Nat) : ∀ {i j : Nat}, i <= j -> cutAt n i <= cutAt n j := by
 intro i j h
 obtain ⟨d, rfl⟩ := Nat.le.dest h
 induction d with
 | zero => exact Nat.le_refl _
 | succ d ih =>
  have h1 : cutAt n (i + d) <= cutAt n (i + d + 1) := Nat.le_trans (Nat.le_add_right _ _) (cut_step n (i + d))
  have h2 := ih (Nat.le_add_right _ _)
  rw [<- Nat.add_assoc]
  omega
theorem cut_le {n i : Nat} (h : i <= nparts n) : cutAt n i <= n := by
 have := cut_mono n h
 rw [cut_all] at this
 exact this
theorem cut_one {n : Nat} (h : 0 < n) (i : Nat) : cutAt n i + 1 <= cutAt n (i + 1) := by
 have h1 := cut_step n i
 have h2 : 1 <= n / ((n + 7) / 8) := by
  rw [Nat.le_div_iff_mul_le (by omega)]
  omega
 omega
theorem cut_two {n : Nat} (h : 2 <= n) (i : Nat) : cutAt n i + 2 <= cutAt n (i + 1) := by
 have h1 := cut_step n i
 have h2 : 2 <= n / ((n + 7) / 8) := by
  rw [Nat.le_div_iff_mul_le (by omega)]
  omega
 omega
theorem nparts_lt {n : Nat} (h : 2 <= n) : nparts n < n := by unfold nparts; omega
theorem nparts_pos {n : Nat} (h : 0 < n) : 0 < nparts n := by unfold nparts; omega
theorem nparts_zero : nparts 0 = 0 := rfl
end Go.Lap
namespace Go.Proofs.YthipgglplneijaaGreatDoor
open Go.RowKit Go.Lap
theorem elem_pair : Elem Tryz.prog 299 301 2 16 := Elem.mk' (.agg #[.int .i64 0, .int .i64 0]) Tryz.underlying299 (by kernel_rfl) rfl (by decide)
structure PartsW (w w' : World) (n i : Nat) (v : Value) : Prop where
 quiet : Quiet w w'
 own : w'.ownsRow 0 301 2 v i (partsV n i)
 new : ∀ k, v.ownBlock = some k -> w.heap.size <= k
def PartsPost (w : World) (n : Nat) (e : Ending) (w' : World) : Prop := ∃ v, e = .returned v /\ PartsW w w' n (nparts n) v
theorem PartsW.push {w w1 w2 w' : World} {n i : Nat} {v v' : Value} (h : PartsW w w1 n i v) (hq : Quiet w1 w2) (hg : Grew w2 w' 301 2 v v' (i + 1) (partsV n i ++ partV n i)) : PartsW w w' n (i + 1) v' := by
 have hz := h.quiet.size
 have hz2 := hq.size
 refine ⟨(h.quiet.trans hq).trans' hg.only (fun k hk e => by have := h.new k e; omega), by rw [partsV_succ]; exact hg.own, fun k e => ?_⟩
 rcases hg.loc with x | x
 ·rw [x] at e; exact h.new k e
 ·rw [x] at e; injection e with e; omega
theorem one_two (a b : Int) : ∀ u ∈ [Value.int .i64 a, Value.int .i64 b], u.oneCell' = true := by
 intro u hu
 simp at hu
 rcases hu with rfl | rfl <;> rfl
set_option maxHeartbeats 2000000 in
theorem parts_any (n : Nat) (w : World) (hn : n <= 40000) : Calls Tryz.prog 186 #[.int .i64 (n : Int)] w (PartsPost w n) := by
 obtain ⟨k, hk⟩ : ∃ k, nparts n = k := ⟨_, rfl⟩
 have hk2 : (n + 7) / 8 = k := hk
 have HK := Lib.hid hk
 have e1 : ((n : Int) + 7).tdiv 8 = (k : Int) := by
  rw [<- hk2]
  rw [Int.tdiv_eq_ediv_of_nonneg (by omega)]
  omega
 have e1' : ((n : Int) + 8 - 1) / 8 = (k : Int) := by omega
 have hk3 : k <= 40000 := by omega
 have HS0 : Hid (PartsW w w n 0 (.slice none 0 0)) := ⟨Only.refl _ _, World.ownsRow_nil _ _ _ _, fun _ e => by cases e⟩
 clear hk
 go_enter Tryz.func186, Tryz.ntmps186
 go_wp2_with fail
 rw [e1']
 go_loopw [11, 4, 5] (fun ci cv _ wr => ∃ (i : Nat) (v' : Value), i <= k /\ ci = .int .i64 (i : Int) /\ v' = cv /\ PartsW w wr n i v') (fun ci _ _ _ => k - (intOf ci).toNat)
 case atStart => exact ⟨0, _, Nat.zero_le _, rfl, rfl, HS0.out⟩
 case round =>
  obtain ⟨i, v', hi', rfl, rfl, hO⟩ := hrel
  clear HS0
  have HO := Lib.hid hO
  obtain ⟨Av, cv', hvv, _, _, _⟩ := own_form hO.own
  subst hvv
  clear hO
  by_cases hlt : i < k
  ·obtain ⟨p, hp⟩ : ∃ p : Nat, n * i = p := ⟨_, rfl⟩
   obtain ⟨q, hq⟩ : ∃ q : Nat, n * (i + 1) = q := ⟨_, rfl⟩
   obtain ⟨a, ha⟩ : ∃ a : Nat, p / k = a := ⟨_, rfl⟩
   obtain ⟨b, hb⟩ : ∃ b : Nat, q / k = b := ⟨_, rfl⟩
   have hpb : p <= 40000 * 40000 := by rw [<- hp]; exact Nat.mul_le_mul hn (by omega)
   have hqb : q <= 40000 * 40000 := by rw [<- hq]; exact Nat.mul_le_mul hn (by omega)
   have hab : a <= p := by rw [<- ha]; exact Nat.div_le_self _ _
   have hbb : b <= q := by rw [<- hb]; exact Nat.div_le_self _ _
   have HA : Hid (cutAt n i = a) := by show n * i / ((n + 7) / 8) = a; rw [hk2, hp, ha]
   have HB : Hid (cutAt n (i + 1) = b) := by show n * (i + 1) / ((n + 7) / 8) = b; rw [hk2, hq, hb]
   have hpi : (n : Int) * (i : Int) = (p : Int) := by rw [<- hp]; simp
   have hqi : (n : Int) * ((i : Int) + 1) = (q : Int) := by rw [<- hq]; simp
   have m1 : IntKind.i64.wrap ((n : Int) * (i : Int)) = (p : Int) := by rw [hpi]; exact wrapI (by omega)
   have m2 : IntKind.i64.wrap ((n : Int) * ((i : Int) + 1)) = (q : Int) := by rw [hqi]; exact wrapI (by omega)
   have m3 : IntKind.i64.wrap ((i : Int) + 1) = (i : Int) + 1 := wrapI (by omega)
   have ta : (p : Int).tdiv (k : Int) = (a : Int) := by rw [<- ha]; rw [Int.tdiv_eq_ediv_of_nonneg (by omega)]; rfl
   have tb : (q : Int).tdiv (k : Int) = (b : Int) := by rw [<- hb]; rw [Int.tdiv_eq_ediv_of_nonneg (by omega)]; rfl
   have q1 : IntKind.i64.wrap ((p : Int).tdiv (k : Int)) = (a : Int) := by rw [ta]; exact wrapI (by omega)
   have q2 : IntKind.i64.wrap ((q : Int).tdiv (k : Int)) = (b : Int) := by rw [tb]; exact wrapI (by omega)
   have k0 : ¬ k = 0 := by omega
   have wa : IntKind.i64.wrap (a : Int) = (a : Int) := wrapI (by omega)
   have wb : IntKind.i64.wrap (b : Int) = (b : Int) := wrapI (by omega)
   clear hp hq ha hb hpi hqi hpb hqb hab hbb
   go_upto_region 6 with fail
   go_region_law (first
     | (refine app_step elem_pair rfl (.tmp 14) (.tmp 27) rfl rfl (owns_kept HO.out.own (((Only.refl (fun _ => False) wr).alloc (.cells #[.int .i64 (a : Int), .int .i64 (b : Int)] 301)).drew) (fun _ _ x => x)) rfl (Rd.kept (Rd.new wr 2 1 [.int .i64 (a : Int), .int .i64 (b : Int)] 301 (fun _ => True) rfl trivial) ((Only.refl (fun _ => False) _).drew) (fun _ _ x => x)) (one_two a b) (by unfold maxLen; omega) (by omega) ?_; intro v5 w5 hg5; have HO5 : Hid (PartsW w w5 n (i + 1) v5) := HO.out.push (((Only.refl (fun _ => False) wr).alloc (.cells #[.int .i64 (a : Int), .int .i64 (b : Int)] 301)).drew) (by unfold partV; rw [HA.out, HB.out]; exact hg5); clear hg5)
     | fail)
   all_goals
    go_wp2
    go_roundw
    case rel => exact ⟨i + 1, v5, by omega, by go_num, rfl, HO5.out⟩
    case measure => simp [intOf]; omega
  ·have HR : Hid (PartsPost w n (.returned (.slice Av i cv')) wr) := ⟨_, rfl, by rw [HK.out, show k = i by omega]; exact HO.out⟩
   go_wp2
   go_ret
   exact HR.out
end Go.Proofs.YthipgglplneijaaGreatDoor
namespace Go.Lap
theorem flat_snoc (ks : List Kid) (x : Kid) : flat (ks ++ [x]) = flat ks ++ x.xs := by simp [flat]
theorem take_part {α : Type} (xs : List α) {a b : Nat} (h : a <= b) : xs.take a ++ (xs.drop a).take (b - a) = xs.take b := by
 have e : b = a + (b - a) := by omega
 conv => rhs; rw [e]
 rw [List.take_add]
end Go.Lap
namespace Go.Proofs.YthipgglplneijaaGreatDoor
open Go.RowKit Go.Lap
structure Forest (K : Nat -> Prop) (h : Nat) (w0 w : World) (v : Value) (ks : List Kid) : Prop where
 quiet : Quiet w0 w
 row : w.ownsRow 0 183 1 v ks.length (kptrs ks)
 new : ∀ k, v.ownBlock = some k -> w0.heap.size <= k
 kid : ∀ x ∈ ks, x.xs ≠ [] /\ NodeAt K h w x.b x.F x.xs
 sub : ∀ x ∈ ks, ∀ k, x.F k -> w0.heap.size <= k /\ k < w.heap.size /\ v.ownBlock ≠ some k
 apart : ks.Pairwise (fun x y => ∀ k, x.F k -> ¬ y.F k)
theorem Forest.start {K : Nat -> Prop} {h : Nat} {w0 w : World} (hq : Quiet w0 w) : Forest K h w0 w (.slice none 0 0) [] :=
 ⟨hq, World.ownsRow_nil _ _ _ _, (fun _ e => by cases e), (fun x hx => by cases hx), (fun x hx => by cases hx), List.Pairwise.nil⟩
theorem Forest.push {K : Nat -> Prop} {h : Nat} {w0 w w2 w5 : World} {v v5 : Value} {ks : List Kid} {x : Kid} (hK : ∀ k, K k -> k < w0.heap.size) (hF : Forest K h w0 w v ks) (hq : Quiet w w2) (hx : x.xs ≠ [] /\ NodeAt K h w2 x.b x.F x.xs) (hs : ∀ k, x.F k -> w0.heap.size <= k /\ k < w2.heap.size /\ v.ownBlock ≠ some k) (ha : ∀ y ∈ ks, ∀ k, y.F k -> ¬ x.F k) (hg : Grew w2 w5 183 1 v v5 (ks.length + 1) (kptrs ks ++ [ptrV x.b])) : Forest K h w0 w5 v5 (ks ++ [x]) := by
 have hz0 := hF.quiet.size
 have hz := hq.size
 have hz5 := hg.only.size
 have hKv : ∀ k, K k -> ¬ v.ownBlock = some k := fun k x e => by have := hK k x; have := hF.new k e; omega
 refine ⟨(hF.quiet.trans hq).trans' hg.only (fun k hk e => by have := hF.new k e; omega), ?_, fun k e => ?_, fun y hy => ?_, fun y hy k hk => ?_, ?_⟩
 ·rw [List.length_append, kptrs, List.map_append]
  exact hg.own
 ·rcases hg.loc with y | y
  ·rw [y] at e; exact hF.new k e
  ·rw [y] at e; injection e with e; omega
 ·rcases List.mem_append.1 hy with z | z
  ·exact ⟨(hF.kid y z).1, NodeAt.kept hg.only hKv (NodeAt.kept hq (fun _ _ x => x) (hF.kid y z).2 (fun _ _ x => x)) (fun k u e => (hF.sub y z k u).2.2 e)⟩
  ·simp at z
   subst z
   exact ⟨hx.1, NodeAt.kept hg.only hKv hx.2 (fun k u e => (hs k u).2.2 e)⟩
 ·have key : w0.heap.size <= k /\ k < w2.heap.size /\ v.ownBlock ≠ some k := by
   rcases List.mem_append.1 hy with z | z
   ·have := hF.sub y z k hk
    exact ⟨this.1, by omega, this.2.2⟩
   ·simp at z
    subst z
    exact hs k hk
  refine ⟨key.1, by omega, fun e => ?_⟩
  rcases hg.loc with u | u
  ·rw [u] at e; exact key.2.2 e
  ·rw [u] at e; injection e with e; omega
 ·rw [List.pairwise_append]
  refine ⟨hF.apart, List.pairwise_singleton _ _, fun y hy z hz k u => ?_⟩
  simp at hz
  subst hz
  exact ha y hy k u
theorem leaf_new {K : Nat -> Prop} {w w2 : World} {xs : List EV} {v : Value} (hn : NewRow w w2 124 3 v xs.length (rowV xs)) (hk : ∀ x ∈ xs, Keyd w K x) : NodeAt K 0 (w2.alloc (.cells #[v, .slice none 0 0] 187)) w2.heap.size (fun k => k = w2.heap.size ∨ v.ownBlock = some k) xs :=
 ⟨v, alloc_new w2 _, owns_kept hn.own ((Only.refl (fun _ => False) w2).alloc _) (fun _ _ x => x), fun x hx => ((hk x hx).quietly hn.quiet).quietly ((Only.refl (fun _ => False) w2).alloc _), Or.inl rfl, fun k e => Or.inr e⟩
structure Up (K : Nat -> Prop) (h : Nat) (w1 w3 w : World) (vu : Value) (ks us : List Kid) (m : Nat) : Prop where
 up : Forest K (h + 1) w1 w vu us
 nu : ∀ k, vu.ownBlock = some k -> w3.heap.size <= k
 old : Quiet w3 w
 sep : ∀ x ∈ ks.drop m, ∀ u ∈ us, ∀ k, x.F k -> ¬ u.F k
 flt : flat us = flat (ks.take m)
theorem Up.start {K : Nat -> Prop} {h : Nat} {w1 w3 : World} {vr : Value} {ks : List Kid} (hb : Forest K h w1 w3 vr ks) : Up K h w1 w3 w3 (.slice none 0 0) ks [] 0 :=
 ⟨Forest.start hb.quiet, (fun _ e => by cases e), Only.refl _ _, (fun x _ u hu => by cases hu), rfl⟩
theorem flat_ne {ks : List Kid} (h : ks ≠ []) (hx : ∀ x ∈ ks, x.xs ≠ []) : flat ks ≠ [] := by
 rcases ks with _ | ⟨x, ks⟩
 ·exact absurd rfl h
 ·intro e
  unfold flat at e
  rw [List.flatMap_cons, List.append_eq_nil_iff] at e
  exact hx x (by simp) e.1
theorem Forest.quietly {K : Nat -> Prop} {h : Nat} {w0 w w' : World} {v : Value} {ks : List Kid} (hF : Forest K h w0 w v ks) (hq : Quiet w w') : Forest K h w0 w' v ks := by
 have hz := hq.size
 exact ⟨hF.quiet.trans hq, owns_kept hF.row hq (fun _ _ x => x), hF.new, fun x hx => ⟨(hF.kid x hx).1, NodeAt.kept hq (fun _ _ x => x) (hF.kid x hx).2 (fun _ _ x => x)⟩, fun x hx k hk => by have := hF.sub x hx k hk; exact ⟨this.1, by omega, this.2.2⟩, hF.apart⟩
theorem Up.push {K : Nat -> Prop} {h : Nat} {w1 w3 wr wa w4 w5 w7 : World} {vr vu u vl v7 : Value} {ks us grp : List Kid} {a b : Nat} (hK : ∀ k, K k -> k < w1.heap.size) (hb : Forest K h w1 w3 vr ks) (hU : Up K h w1 w3 wr vu ks us a) (hab : a + 2 <= b) (hbn : b <= ks.length) (hgrp : (ks.drop a).take (b - a) = grp)
  (hqa : Quiet wr wa) (hu : NewRow wa w4 183 1 u grp.length (kptrs grp)) (hq : Quiet w4 w5) (hbox : w5.heap[w4.heap.size]? = some (.cells #[vl, u] 187 (0, 0))) (hrow : RowAt w5 vl (heads grp)) (hvl : ∀ k, vl.ownBlock = some k -> w4.heap.size < k)
  (hg : Grew (w5.alloc (.cells #[ptrV w4.heap.size] 183)) w7 183 1 vu v7 (us.length + 1) (kptrs us ++ [ptrV w4.heap.size])) : ∃ F, Up K h w1 w3 w7 v7 ks (us ++ [⟨w4.heap.size, F, flat grp⟩]) b := by
 have z1 := hU.up.quiet.size
 have z2 := hU.old.size
 have z3 := hqa.size
 have z4 := hu.quiet.size
 have z5 := hq.size
 have z0 := hb.quiet.size
 have hgl : grp.length = b - a := by rw [<- hgrp, List.length_take, List.length_drop]; omega
 have hgs : ∀ x ∈ grp, x ∈ ks.drop a := fun x hx => by rw [<- hgrp] at hx; exact List.mem_of_mem_take hx
 have hgk : ∀ x ∈ grp, x ∈ ks := fun x hx => List.mem_of_mem_drop (hgs x hx)
 have hq35 : Quiet w3 w5 := ((hU.old.trans hqa).trans hu.quiet).trans hq
 have hlb := lt_of_get hbox
 obtain ⟨ju, eu1, eu2⟩ := hu.loc
 have eu3 := (hu.own.lt ju eu1).2
 have hold : ∀ x ∈ ks, ∀ k, x.F k -> w1.heap.size <= k /\ k < w3.heap.size := fun x hx k hk => ⟨(hb.sub x hx k hk).1, (hb.sub x hx k hk).2.1⟩
 have hnode : NodeAt K (h + 1) w5 w4.heap.size (fun k => (k = w4.heap.size ∨ vl.ownBlock = some k ∨ u.ownBlock = some k) ∨ ∃ x ∈ grp, x.F k) (flat grp) := by
  refine ⟨vl, u, grp, ⟨hbox, hrow, owns_kept hu.own hq (fun _ _ x => x), ⟨ju, eu1⟩, by omega, fun x hx => ⟨(hb.kid x (hgk x hx)).1, NodeAt.kept hq35 (fun _ _ x => x) (hb.kid x (hgk x hx)).2 (fun _ _ x => x)⟩, fun x hx k hk => ⟨Or.inr ⟨x, hx, hk⟩, ?_, ?_, ?_⟩, ?_, Or.inl (Or.inl rfl), fun k e => Or.inl (Or.inr (Or.inl e)), fun k e => Or.inl (Or.inr (Or.inr e))⟩, rfl⟩
  ·have := (hold x (hgk x hx) k hk).2; omega
  ·intro e; have := (hold x (hgk x hx) k hk).2; have := hvl k e; omega
  ·intro e; have := (hold x (hgk x hx) k hk).2; rw [eu1] at e; injection e with e; omega
  ·rw [<- hgrp]
   exact hb.apart.sublist ((List.take_sublist _ _).trans (List.drop_sublist _ _))
 have hne : flat grp ≠ [] := flat_ne (fun e => by rw [e] at hgl; simp at hgl; omega) (fun x hx => (hb.kid x (hgk x hx)).1)
 have hvu : ∀ k, vu.ownBlock = some k -> k < wr.heap.size := fun k e => (hU.up.row.lt k e).2
 have hq6 : Quiet wr (w5.alloc (.cells #[ptrV w4.heap.size] 183)) := (((hqa.trans hu.quiet).trans hq).alloc _)
 have hF7 := hU.up.push (x := ⟨w4.heap.size, _, flat grp⟩) hK hq6 ⟨hne, NodeAt.kept ((Only.refl (fun _ => False) w5).alloc (.cells #[ptrV w4.heap.size] 183)) (fun _ _ x => x) hnode (fun _ _ x => x)⟩ (fun k x => by
     rw [World.size_alloc]
     rcases x with (x | x | x) | ⟨y, hy, x⟩
     · exact ⟨by omega, by omega, fun e => by have := hvu k e; omega⟩
     · have h1 := hvl k x
       have h2 := (hrow.lt k x).2
       exact ⟨by omega, by omega, fun e => by have := hvu k e; omega⟩
     · rw [eu1] at x
       injection x with x
       exact ⟨by omega, by omega, fun e => by have := hvu k e; omega⟩
     · have := hold y (hgk y hy) k x
       exact ⟨this.1, by omega, fun e => by have := hU.nu k e; omega⟩) (fun y hy k hk x => by
     have h1 := (hU.up.sub y hy k hk).2.1
     rcases x with (x | x | x) | ⟨z, hz, x⟩
     · omega
     · have := hvl k x; omega
     · rw [eu1] at x; injection x with x; omega
     · exact hU.sep z (hgs z hz) y hy k x hk) hg
 refine ⟨_, hF7, fun k e => ?_, ((hU.old.trans hqa).trans hu.quiet |>.trans hq |>.alloc _).trans' hg.only (fun k hk e => by have := hU.nu k e; omega), fun x hx y hy k hk hk' => ?_, ?_⟩
 ·rcases hg.loc with x | x
  ·rw [x] at e; exact hU.nu k e
  ·rw [x] at e; injection e with e; rw [World.size_alloc] at e; omega
 ·have hxa : x ∈ ks.drop a := by
   have e : ks.drop b = (ks.drop a).drop (b - a) := by rw [List.drop_drop]; congr 1; omega
   rw [e] at hx
   exact List.mem_of_mem_drop hx
  rcases List.mem_append.1 hy with z | z
  ·exact hU.sep x hxa y z k hk hk'
  ·simp at z
   subst z
   have h1 := hold x (List.mem_of_mem_drop hxa) k hk
   rcases hk' with (u1 | u1 | u1) | ⟨z, hz, u1⟩
   ·omega
   ·have := hvl k u1; omega
   ·rw [eu1] at u1; injection u1 with u1; omega
   ·have hap : (ks.take b ++ ks.drop b).Pairwise (fun x y => ∀ k, x.F k -> ¬ y.F k) := by rw [List.take_append_drop]; exact hb.apart
    rw [List.pairwise_append] at hap
    refine hap.2.2 z ?_ x hx k u1 hk
    rw [<- take_part ks (show a <= b by omega), hgrp]
    exact List.mem_append_right _ hz
 ·rw [flat_snoc, hU.flt, <- take_part ks (show a <= b by omega), hgrp]
  unfold flat
  rw [List.flatMap_append]
structure Heads (w4 w : World) (u vl : Value) (grp : List Kid) (t : Nat) : Prop where
 quiet : Quiet w4 w
 box : w.heap[w4.heap.size]? = some (.cells #[vl, u] 187 (0, 0))
 row : RowAt w vl (heads (grp.take t))
 new : ∀ k, vl.ownBlock = some k -> w4.heap.size < k
theorem Heads.start (w4 : World) (u : Value) (grp : List Kid) : Heads w4 (w4.alloc (.cells #[.slice none 0 0, u] 187)) u (.slice none 0 0) grp 0 :=
 ⟨(Only.refl _ _).alloc _, alloc_new w4 _, World.ownsRow_nil _ _ _ _, (fun _ e => by cases e)⟩
theorem Heads.push {w4 w W w5 : World} {u vl v5 : Value} {grp : List Kid} {t : Nat} {x : Kid} (h : Heads w4 w u vl grp t) (hx : grp[t]? = some x) (hq : Quiet w W) (hg : Grew W w5 124 3 vl v5 (t + 1) (rowV (heads (grp.take t)) ++ (hd x.xs).cells)) : Heads w4 (w5.setCell ⟨w4.heap.size, 0, none⟩ v5) u v5 grp (t + 1) := by
 have hset : Only (· = w4.heap.size) w5 (w5.setCell ⟨w4.heap.size, 0, none⟩ v5) := (Only.refl (· = w4.heap.size) w5).setCell (p := ⟨w4.heap.size, 0, none⟩) (fun _ => rfl) _
 have hb := lt_of_get h.box
 have hz := hq.size
 have hv5 : ∀ k, v5.ownBlock = some k -> w4.heap.size < k := fun k e => by
  rcases hg.loc with y | y
  ·rw [y] at e; exact h.new k e
  ·rw [y] at e; injection e with e; omega
 have hl := (List.getElem?_eq_some_iff.1 hx).1
 refine ⟨((h.quiet.trans hq).trans' hg.only (fun k hk e => by have := h.new k e; omega)).trans' hset (fun k hk e => by omega), by rw [set_same (hg.only.get (hq.get h.box (fun x => x)) (fun e => by have := h.new _ e; omega))]; rfl, ?_, hv5⟩
 have e1 : heads (grp.take (t + 1)) = heads (grp.take t) ++ [hd x.xs] := by rw [take_succ_get hx]; simp [heads]
 unfold RowAt
 rw [e1, rowV_append, rowV_one, List.length_append, heads, List.length_map, List.length_take, Nat.min_eq_left (by omega)]
 exact owns_kept hg.own hset (fun k e y => by have := hv5 k e; omega)
def BuildPost (K : Nat -> Prop) (w : World) (xs : List EV) (e : Ending) (w' : World) : Prop := ∃ b h F, e = .returned (ptrV b) /\ Quiet w w' /\ NodeAt K h w' b F xs /\ ∀ k, F k -> w.heap.size <= k /\ k < w'.heap.size
theorem pair_at {w w' : World} {n k i : Nat} {v : Value} {A : Option Addr} {c : Nat} (h : w.ownsRow 0 301 2 v k (partsV n k)) (hv : v = .slice A k c) (hi : i < k) (hq : Only (fun _ => False) w w') : ∃ g, A = some ⟨g, 0, none⟩ /\ w'.cell? ⟨g, i * 2, none⟩ = some (.int .i64 (cutAt n i : Int)) /\ w'.cell? ⟨g, i * 2 + 1, none⟩ = some (.int .i64 (cutAt n (i + 1) : Int)) := by
 obtain ⟨h1, h2⟩ := partsV_get n hi
 rcases owns_cases h with ⟨_, e⟩ | ⟨g, c', e, _, _⟩
 ·omega
 ·subst e
  injection hv with e1 _ _
  subst e1
  refine ⟨g, rfl, ?_, ?_⟩
  ·have := h.cells rfl (i * 2) _ h1
   rw [add_none, Nat.zero_add] at this
   exact hq.cell this (fun x => x)
  ·have := h.cells rfl (i * 2 + 1) _ h2
   rw [add_none, Nat.zero_add] at this
   exact hq.cell this (fun x => x)
theorem part_rd {w : World} {S : Nat -> Prop} {g o n a b : Nat} {xs : List EV} (h : Rd w S 3 (some ⟨g, o, none⟩) n (rowV xs)) (hab : a <= b) (hb : b <= n) : Rd w S 3 (some ⟨g, o + a * 3, none⟩) (b - a) (rowV ((xs.drop a).take (b - a))) := by
 have := (h.drop (k := a) (by omega)).takeK (k := b - a) (by omega)
 rw [rowV_take, rowV_drop]
 exact this
theorem part_rdK {w : World} {S : Nat -> Prop} {g o n a b : Nat} {ks : List Kid} (h : Rd w S 1 (some ⟨g, o, none⟩) n (kptrs ks)) (hab : a <= b) (hb : b <= n) : Rd w S 1 (some ⟨g, o + a, none⟩) (b - a) (kptrs ((ks.drop a).take (b - a))) := by
 have := (h.drop (k := a) (by omega)).takeK (k := b - a) (by omega)
 rw [Nat.mul_one, Nat.mul_one] at this
 unfold kptrs at this ⊢
 rw [List.map_take, List.map_drop]
 exact this
theorem Forest.leaf {K : Nat -> Prop} {w w0 wr w2 w5 : World} {v v1 v5 : Value} {ks : List Kid} {ys : List EV} (hK : ∀ k, K k -> k < w.heap.size) (hF : Forest K 0 w wr v ks) (hq : Quiet wr w0) (hn : NewRow w0 w2 124 3 v1 ys.length (rowV ys)) (hk : ∀ x ∈ ys, Keyd w K x) (hy : ys ≠ [])
  (hg : Grew ((w2.alloc (.cells #[v1, .slice none 0 0] 187)).alloc (.cells #[ptrV w2.heap.size] 183)) w5 183 1 v v5 (ks.length + 1) (kptrs ks ++ [ptrV w2.heap.size])) : ∃ F, Forest K 0 w w5 v5 (ks ++ [⟨w2.heap.size, F, ys⟩]) := by
 have z1 := hF.quiet.size
 have z2 := hq.size
 have z3 := hn.quiet.size
 have hq2 : Quiet wr w2 := hq.trans hn.quiet
 have hl := leaf_new hn (fun x hx => (hk x hx).quietly (hF.quiet.trans hq))
 refine ⟨_, hF.push hK ((hq2.alloc _).alloc _) ⟨hy, NodeAt.kept ((Only.refl (fun _ => False) _).alloc (.cells #[ptrV w2.heap.size] 183)) (fun _ _ x => x) hl (fun _ _ x => x)⟩ (fun k x => ?_) (fun y hy' k u x => ?_) hg⟩
 ·rw [World.size_alloc, World.size_alloc]
  rcases x with x | x
  ·exact ⟨by omega, by omega, fun e => by have := (hF.row.lt k e).2; omega⟩
  ·obtain ⟨j, e1, e2⟩ := hn.loc
   rw [e1] at x
   injection x with x
   have := (hn.own.lt j e1).2
   exact ⟨by omega, by omega, fun e => by have := (hF.row.lt k e).2; omega⟩
 ·have := (hF.sub y hy' k u).2.1
  rcases x with x | x
  ·omega
  ·obtain ⟨j, e1, e2⟩ := hn.loc
   rw [e1] at x
   injection x with x
   omega
set_option maxHeartbeats 8000000 in
theorem build_any (K S : Nat -> Prop) (xs : List EV) (A : Option Addr) (n cap : Nat) (w : World) (hn : xs.length = n) (hr : Rd w S 3 A n (rowV xs)) (hk : ∀ x ∈ xs, Keyd w K x) (hK : ∀ k, K k -> k < w.heap.size) (hc : n <= cap) (hcap : cap <= maxLen) (hl : n <= 40000) :
  Calls Tryz.prog 162 #[.slice A n cap] w (BuildPost K w xs) := by
 unfold maxLen at hcap
 have HN := Lib.hid hn
 have HR := Lib.hid hr
 have HK := Lib.hid hk
 have HKO := Lib.hid hK
 obtain ⟨m, hm⟩ : ∃ m, nparts n = m := ⟨_, rfl⟩
 have hml : m <= 40000 := by unfold nparts at hm; omega
 have HM := Lib.hid hm
 have HF0 := Lib.hid (trivial : True)
 have HP := Lib.hid (parts_any n w hl)
 obtain ⟨POST, hPOST⟩ : ∃ POST, BuildPost K w xs = POST := ⟨_, rfl⟩
 have HPOST := Lib.hid hPOST
 rw [hPOST]
 clear hn hr hk hK hm hPOST
 go_enter Tryz.func162, Tryz.ntmps162
 go_wp2_with fail
 refine HP.out.mono ?_
 rintro e w1 ⟨vp, rfl, hp⟩
 rw [HM.out] at hp
 obtain ⟨Ap, cp, hvp, hcp, hcpm, _⟩ := own_form hp.own
 subst hvp
 have HPA := Lib.hid hp
 have HKO1 : Hid (∀ k, K k -> k < w1.heap.size) := fun k x => by have := HKO.out k x; have := hp.quiet.size; omega
 clear HP hp
 go_wp2_with fail
 go_loopw [16, 3, 5] (fun ci cv _ wr => ∃ (i : Nat) (v' : Value) (ks : List Kid), i <= m /\ ci = .int .i64 (i : Int) /\ v' = cv /\ Forest K 0 w1 wr v' ks /\ ks.length = i /\ flat ks = xs.take (cutAt n i)) (fun ci _ _ _ => m - (intOf ci).toNat)
 case atStart => exact ⟨0, _, [], Nat.zero_le _, rfl, rfl, Forest.start (Only.refl _ _), rfl, by rw [cut_zero]; rfl⟩
 case round =>
  obtain ⟨i, v', ks, hi, rfl, rfl, hF, hkl, hfl⟩ := hrel
  clear HF0
  have HF := Lib.hid hF
  have HQI := Lib.hid hF.quiet
  have HFL := Lib.hid hfl
  have HKL := Lib.hid hkl
  obtain ⟨Av, cv', hvv, hcv, _, _⟩ := own_form hF.row
  rw [hkl] at hvv hcv
  subst hvv
  clear hF hfl hkl
  by_cases hlt : i < m
  ·obtain ⟨a, ha⟩ : ∃ a, cutAt n i = a := ⟨_, rfl⟩
   obtain ⟨b, hb⟩ : ∃ b, cutAt n (i + 1) = b := ⟨_, rfl⟩
   have hn0 : 0 < n := by
    rcases Nat.eq_zero_or_pos n with z | z
    ·subst z; have := HM.out; rw [nparts_zero] at this; omega
    ·exact z
   have hab : a < b := by have := cut_one hn0 i; omega
   have hbn : b <= n := by rw [<- hb]; exact cut_le (by have := HM.out; omega)
   obtain ⟨g, hA, p0, p1⟩ := pair_at HPA.out.own rfl hlt HQI.out
   rw [ha] at p0
   rw [hb] at p1
   subst hA
   have HAB := Lib.hid (And.intro ha hb)
   clear ha hb
   obtain ⟨gx, ox, hAx, _, _⟩ := HR.out.cells (by rw [rowV_length, HN.out]; omega)
   subst hAx
   obtain ⟨ys, hys⟩ : ∃ ys, (xs.drop a).take (b - a) = ys := ⟨_, rfl⟩
   have HYL : Hid (ys.length = b - a) := by show ys.length = b - a; rw [<- hys, List.length_take, List.length_drop, HN.out]; omega
   have HYS := Lib.hid hys
   have HQA := Lib.hid (((Only.refl (fun _ => False) wr).alloc (.cells #[.int .i64 (a : Int), .int .i64 (b : Int)] 301)))
   have HCL := Lib.hid (clone_ent ⟨gx, ox + a * 3, none⟩ (b - a) (cap - a) _ _ _ ((part_rd (HR.out.kept (HPA.out.quiet.trans (HF.out.quiet.trans HQA.out)) (fun _ _ x => x)) (Nat.le_of_lt hab) hbn)) (one_row _) (by omega))
   rw [hys] at HCL
   clear hys
   go_wp2_with fail
   refine HCL.out.mono ?_
   rintro e w2 ⟨v1, rfl, hn1⟩
   obtain ⟨A1, c1, hv1, _, _, _⟩ := own_form hn1.own
   subst hv1
   have HN1 : Hid (NewRow (wr.alloc (.cells #[.int .i64 (a : Int), .int .i64 (b : Int)] 301)) w2 124 3 (.slice A1 (b - a) c1) ys.length (rowV ys)) := by rw [HYL.out]; exact hn1
   clear hn1 HCL p0 p1
   have HRD : Hid (Rd ((w2.alloc (.cells #[.slice A1 (b - a) c1, .slice none 0 0] 187)).alloc (.cells #[ptrV w2.heap.size] 183)) (fun _ => True) 1 (some ⟨w2.heap.size + 1, 0, none⟩) 1 [ptrV w2.heap.size]) := by
    have := Rd.new (w2.alloc (.cells #[.slice A1 (b - a) c1, .slice none 0 0] 187)) 1 1 [ptrV w2.heap.size] 183 (fun _ => True) rfl trivial
    rw [World.size_alloc] at this
    exact this
   have HRW := Lib.hid (owns_kept HF.out.row (((HQA.out.trans HN1.out.quiet).alloc (.cells #[.slice A1 (b - a) c1, .slice none 0 0] 187)).alloc (.cells #[ptrV w2.heap.size] 183)) (fun _ _ x => x))
   have hkl1 : ks.length <= 40000 := by have := HKL.out; omega
   go_wp2_with (at_builtin; refine app elem_node rfl (.tmp 20) (.tmp 30) rfl rfl HRW.out rfl HRD.out (one_ptr [w2.heap.size]) (by unfold maxLen; omega) (by omega) ?_)
   intro v5 w5 hg5
   have hyn : ys ≠ [] := fun e => by have := HYL.out; rw [e] at this; simp at this; omega
   have hkm : ∀ x ∈ ys, Keyd w1 K x := fun x hx => (HK.out x (List.mem_of_mem_drop (List.mem_of_mem_take (by rw [HYS.out]; exact hx)))).quietly HPA.out.quiet
   obtain ⟨F, hF5⟩ := HF.out.leaf HKO1.out HQA.out HN1.out hkm hyn hg5
   have HF5 := Lib.hid hF5
   have HFL5 : Hid (flat (ks ++ [⟨w2.heap.size, F, ys⟩]) = xs.take (cutAt n (i + 1))) := by
    rw [flat_snoc, HFL.out, HAB.out.1, HAB.out.2, <- HYS.out]
    exact take_part xs (Nat.le_of_lt hab)
   clear hg5 hF5 HRD HRW hyn hkm HF HFL HQI HQA HN1 hkl1
   go_wp2
   go_roundw
   case rel => exact ⟨i + 1, v5, _, by omega, by go_num, rfl, HF5.out, by rw [List.length_append, HKL.out]; rfl, HFL5.out⟩
   case measure => simp [intOf]; omega
  ·obtain rfl : i = m := by omega
   have HFX : Hid (flat ks = xs) := by show flat ks = xs; rw [HFL.out, <- HM.out, cut_all, List.take_of_length_le (by rw [HN.out]; omega)]
   have HFS := Lib.hid HF.out
   clear HFL HQI
   by_cases hi0 : i = 0
   ·subst hi0
    have hx0 : xs = [] := by
     have h1 := HKL.out
     have h2 : ks = [] := List.eq_nil_of_length_eq_zero h1
     rw [<- HFX.out, h2]; rfl
    have HRES : Hid (POST (.returned (ptrV wr.heap.size)) (wr.alloc (.cells #[.slice none 0 0, .slice none 0 0] 187))) := by
     have hz1 := HPA.out.quiet.size
     have hz2 := HF.out.quiet.size
     rw [<- HPOST.out]
     exact ⟨_, 0, fun k => k = wr.heap.size, rfl, (HPA.out.quiet.trans HF.out.quiet).alloc _, ⟨_, alloc_new wr _, (by rw [hx0]; exact World.ownsRow_nil _ _ _ _), (fun x hx => by rw [hx0] at hx; cases hx), rfl, (fun k e => by cases e)⟩, fun k e => by rw [World.size_alloc]; omega⟩
    go_wp2
    exact HRES.out
   ·have hib : ((i : Int) == 0) = false := by simp; omega
    go_wp2_with fail
    go_loopw [3, 6, 8, 9, 11] (fun c3 _ _ _ _ wr => ∃ (h : Nat) (v' : Value) (ks : List Kid), v' = c3 /\ Forest K h w1 wr v' ks /\ 1 <= ks.length /\ flat ks = xs) (fun c3 _ _ _ _ _ => sliceLen c3)
    case atStart => exact ⟨0, _, ks, rfl, HFS.out, by have := HKL.out; omega, HFX.out⟩
    case round =>
     obtain ⟨h, v', ks2, rfl, hF2, hk1, hfx⟩ := hrel
     obtain ⟨m2, hm2⟩ : ∃ m2, ks2.length = m2 := ⟨_, rfl⟩
     have hm2l : m2 <= n := by have := flat_le (fun x hx => (hF2.kid x hx).1); rw [hfx, HN.out] at this; omega
     obtain ⟨A2, c2, hv2, hc2, hc2m, _⟩ := own_form hF2.row
     rw [hm2] at hv2 hc2 hk1
     subst hv2
     have HF2 := Lib.hid hF2
     have HFX2 := Lib.hid hfx
     have HM2 := Lib.hid hm2
     clear hF2 hfx hm2 HF HFS HFX HKL
     by_cases hone : 1 < m2
     ·obtain ⟨q2, hq2⟩ : ∃ q2, nparts m2 = q2 := ⟨_, rfl⟩
      have hq2l : q2 <= 40000 := by unfold nparts at hq2; omega
      have hq2m : q2 < m2 := by rw [<- hq2]; exact nparts_lt hone
      have hq2p : 0 < q2 := by rw [<- hq2]; exact nparts_pos (by omega)
      have HP2 := Lib.hid (parts_any m2 wr (by omega))
      have HQ2 := Lib.hid hq2
      clear hq2
      go_wp2_with fail
      refine HP2.out.mono ?_
      rintro e w3 ⟨vp2, rfl, hp2⟩
      rw [HQ2.out] at hp2
      obtain ⟨Ap2, cp2, hvp2, hcp2, hcpm2, _⟩ := own_form hp2.own
      subst hvp2
      have HPA2 := Lib.hid hp2
      have HB := Lib.hid (HF2.out.quietly hp2.quiet)
      clear HP2 hp2 HF2
      go_wp2_with fail
      go_loopw [45, 6, 8, 9, 11] (fun ci cv _ _ _ wr => ∃ (i : Nat) (v' : Value) (us : List Kid), i <= q2 /\ ci = .int .i64 (i : Int) /\ v' = cv /\ Up K h w1 w3 wr v' ks2 us (cutAt m2 i) /\ us.length = i) (fun ci _ _ _ _ _ => q2 - (intOf ci).toNat)
      case atStart => exact ⟨0, _, [], Nat.zero_le _, rfl, rfl, by rw [cut_zero]; exact Up.start HB.out, rfl⟩
      case round =>
       obtain ⟨j, v', us, hj, rfl, rfl, hU, hul⟩ := hrel
       have HU := Lib.hid hU
       have HUL := Lib.hid hul
       obtain ⟨Au, cu, hvu, hcu, _, _⟩ := own_form hU.up.row
       rw [hul] at hvu hcu
       subst hvu
       clear hU hul
       by_cases hjq : j < q2
       ·obtain ⟨a, ha⟩ : ∃ a, cutAt m2 j = a := ⟨_, rfl⟩
        obtain ⟨b, hb⟩ : ∃ b, cutAt m2 (j + 1) = b := ⟨_, rfl⟩
        have hab : a + 2 <= b := by have := cut_two (show 2 <= m2 by omega) j; omega
        have hbn : b <= m2 := by rw [<- hb]; exact cut_le (by have := HQ2.out; omega)
        obtain ⟨g, hA, p0, p1⟩ := pair_at HPA2.out.own rfl hjq HU.out.old
        rw [ha] at p0
        rw [hb] at p1
        subst hA
        rw [ha] at HU
        have HAB := Lib.hid hb
        clear ha hb
        obtain ⟨grp, hgrp⟩ : ∃ grp, (ks2.drop a).take (b - a) = grp := ⟨_, rfl⟩
        have HGL : Hid (grp.length = b - a) := by show grp.length = b - a; rw [<- hgrp, List.length_take, List.length_drop, HM2.out]; omega
        have HGRP := Lib.hid hgrp
        have HQA := Lib.hid (((Only.refl (fun _ => False) wr).alloc (.cells #[.int .i64 (a : Int), .int .i64 (b : Int)] 301)))
        obtain ⟨A2', c2', hv2', _, _, hrd2⟩ := own_form HB.out.row
        injection hv2' with e1 e2 e3
        rw [<- e1, HM2.out] at hrd2
        clear e1 e2 e3
        obtain ⟨g2, o2, hA2, _, _⟩ := hrd2.cells (by rw [kptrs, List.length_map, HM2.out]; omega)
        subst hA2
        have hrdg := part_rdK (hrd2.kept (HU.out.old.trans HQA.out) (fun _ _ x => x)) (show a <= b by omega) hbn
        rw [hgrp] at hrdg
        have HCL := Lib.hid (clone_node ⟨g2, o2 + a, none⟩ (b - a) (c2 - a) _ _ _ hrdg (one_kptrs _) (by omega))
        clear hgrp hrd2 hrdg
        go_wp2_with fail
        refine HCL.out.mono ?_
        rintro e w4 ⟨u, rfl, hn4⟩
        obtain ⟨A4, c4, hv4, _, _, _⟩ := own_form hn4.own
        subst hv4
        have HN4 : Hid (NewRow (wr.alloc (.cells #[.int .i64 (a : Int), .int .i64 (b : Int)] 301)) w4 183 1 (.slice A4 (b - a) c4) grp.length (kptrs grp)) := by rw [HGL.out]; exact hn4
        obtain ⟨g4, hA4⟩ : ∃ g4, A4 = some ⟨g4, 0, none⟩ := by
         rcases owns_cases hn4.own with ⟨_, e⟩ | ⟨g4, c4', e, _, _⟩
         ·omega
         ·injection e with e1 _ _
          exact ⟨g4, e1⟩
        subst hA4
        obtain ⟨l4, hl4⟩ : ∃ l4, b - a = l4 := ⟨_, rfl⟩
        rw [hl4] at HGL HN4
        have HL4 := Lib.hid hl4
        have hl4m : l4 <= 40000 := by omega
        rw [hl4]
        have HH0 := Lib.hid (Heads.start w4 (.slice (some ⟨g4, 0, none⟩) l4 c4) grp)
        have HUP : Hid (∀ (w5 w7 : World) (vl v7 : Value), Heads w4 w5 (.slice (some ⟨g4, 0, none⟩) l4 c4) vl grp l4 -> Grew (w5.alloc (.cells #[ptrV w4.heap.size] 183)) w7 183 1 (.slice Au j cu) v7 (j + 1) (kptrs us ++ [ptrV w4.heap.size]) -> ∃ F, Up K h w1 w3 w7 v7 ks2 (us ++ [⟨w4.heap.size, F, flat grp⟩]) b) := fun w5 w7 vl v7 hH hg => Up.push HKO1.out HB.out HU.out hab (by rw [HM2.out]; exact hbn) HGRP.out HQA.out HN4.out hH.quiet hH.box (by have := hH.row; rw [List.take_of_length_le (by rw [HGL.out]; exact Nat.le_refl _)] at this; exact this) hH.new (by rw [HUL.out]; exact hg)
        have HROWU : Hid (∀ w5 : World, Quiet w4 w5 -> w5.ownsRow 0 183 1 (.slice Au j cu) us.length (kptrs us)) := fun w5 hq => owns_kept HU.out.up.row ((HQA.out.trans HN4.out.quiet).trans hq) (fun _ _ x => x)
        have HKIDS : Hid (∀ w5 : World, Quiet w4 w5 -> ∀ x ∈ ks2, x.xs ≠ [] /\ NodeAt K h w5 x.b x.F x.xs) := fun w5 hq x hx => ⟨(HB.out.kid x hx).1, NodeAt.kept (((HU.out.old.trans HQA.out).trans HN4.out.quiet).trans hq) (fun _ _ x => x) (HB.out.kid x hx).2 (fun _ _ x => x)⟩
        have HUROW : Hid (∀ w5 : World, Quiet w4 w5 -> ∀ (t : Nat) (x : Kid), grp[t]? = some x -> w5.cell? ⟨g4, t, none⟩ = some (ptrV x.b)) := fun w5 hq t x hx => by
         have := (owns_kept HN4.out.own hq (fun _ _ x => x)).cells rfl t (ptrV x.b) (by rw [kptrs, List.getElem?_map, hx]; rfl)
         rw [add_none, Nat.zero_add] at this
         exact this
        have HUSL : Hid (us.length = j /\ j <= 40000) := ⟨HUL.out, by omega⟩
        clear hn4 hl4 HCL p0 p1
        go_wp2_with fail
        go_loopw [63, 11] (fun ci _ wr => ∃ (t : Nat) (vl : Value), t <= l4 /\ ci = .int .i64 (t : Int) /\ Heads w4 wr (.slice (some ⟨g4, 0, none⟩) l4 c4) vl grp t) (fun ci _ _ => l4 - (intOf ci).toNat)
        case atStart => exact ⟨0, _, Nat.zero_le _, rfl, HH0.out⟩
        case round =>
         obtain ⟨t, vl, ht, rfl, hH⟩ := hrel
         clear HH0
         have HH := Lib.hid hH
         clear hH
         by_cases htl : t < l4
         ·obtain ⟨x, hx⟩ : ∃ x, grp[t]? = some x := ⟨_, List.getElem?_eq_getElem (by have := HGL.out; omega)⟩
          have hxk : x ∈ ks2 := List.mem_of_mem_drop (List.mem_of_mem_take (by have e := HGRP.out; rw [e]; exact List.mem_of_getElem? hx))
          have r0 := HUROW.out wr HH.out.quiet t x hx
          have hkid := HKIDS.out wr HH.out.quiet x hxk
          have HLE : Hid (∀ W, Quiet wr W -> Calls Tryz.prog 94 #[ptrV x.b] W fun e w' => e = .returned (entV (hd x.xs).e (hd x.xs).A (hd x.xs).c) /\ Quiet W w') := fun W hW => least_any (NodeAt.kept hW (fun _ _ x => x) hkid.2 (fun _ _ x => x)) hkid.1
          obtain ⟨Al, cl, hvl, _, _, _⟩ := own_form HH.out.row
          have htk : (heads (grp.take t)).length = t := by rw [heads, List.length_map, List.length_take]; have := HGL.out; omega
          rw [htk] at hvl
          subst hvl
          have HTK := Lib.hid htk
          have hbx := HH.out.box
          have b0 : wr.cell? ⟨w4.heap.size, 0, none⟩ = some (.slice Al t cl) := by rw [cell_of hbx]; rfl
          have HNV : Hid (∀ k, (Value.slice Al t cl).ownBlock = some k -> k ≠ w4.heap.size) := fun k e => by have := HH.out.new k e; omega
          have HX := Lib.hid hx
          have d0 : (0 : Int) <= (t : Int) := by omega
          have d1 : (t : Int) < (l4 : Int) := by omega
          have HROWT : Hid (wr.ownsRow 0 124 3 (.slice Al t cl) t (rowV (heads (grp.take t)))) := by have := HH.out.row; unfold RowAt at this; rw [HTK.out] at this; exact this
          clear hx hxk hkid htk hbx
          go_upto_region 18 with fail
          go_region_law (first
            | (go_simp; go_at_call 94; refine (HLE.out _ (Only.refl (fun _ => False) wr).drew).mono ?_; rintro e w6 ⟨rfl, hq6⟩; have k6 : w6.cell? ⟨w4.heap.size, 0, none⟩ = some (.slice Al t cl) := hq6.cell (by exact b0) (fun x => x); have hl6 : w4.heap.size < w6.heap.size := cell_lt k6; have hn6 : ¬ w4.heap.size = w6.heap.size := (by omega))
            | (refine app_step elem_ent rfl (.tmp 71) (.tmp 74) rfl rfl (owns_kept (owns_kept (by exact HROWT.out) hq6 (fun _ _ x => x)) ((Only.refl (fun _ => False) w6).alloc _) (fun _ _ x => x)) rfl (Rd.new w6 3 1 (hd x.xs).cells 124 (fun _ => True) rfl trivial) (one_row [hd x.xs]) (by unfold maxLen; omega) (by omega) ?_; intro v5 w5 hg5; have hb5 := hg5.only.get (alloc_old (hq6.get (by exact HH.out.box) (fun x => x)) _) (fun e => HNV.out _ e rfl); obtain ⟨A5, c5, hv5, _, _, _⟩ := own_form hg5.own; subst hv5; have s1 : w5.cell? ⟨w4.heap.size, 0, none⟩ = some (.slice Al t cl) := (by rw [cell_of hb5]; rfl); have s2 := fun o => frozen_of hb5 o)
            | fail)
          all_goals
           have HH5 := Lib.hid (HH.out.push HX.out (((Only.refl (fun _ => False) wr).drew.trans hq6).alloc (.cells #[.slice (hd x.xs).A (hd x.xs).e.key.length (hd x.xs).c, .int .i64 (hd x.xs).e.pg, .int .i64 (hd x.xs).e.sl] 124)) (by exact hg5))
           clear hg5 hq6 s1 s2 hb5 k6 hl6 hn6 b0 r0
           go_wp2
           go_roundw
           case rel => exact ⟨t + 1, _, by omega, by go_num, HH5.out⟩
           case measure => simp [intOf]; omega
         ·obtain rfl : t = l4 := by omega
          have hus := HUSL.out
          have HRU := Lib.hid (owns_kept (HROWU.out wr HH.out.quiet) ((Only.refl (fun _ => False) wr).alloc (.cells #[ptrV w4.heap.size] 183)) (fun _ _ x => x))
          go_wp2_with (at_builtin; refine app elem_node rfl (.tmp 79) (.tmp 81) rfl rfl HRU.out rfl (Rd.new wr 1 1 [ptrV w4.heap.size] 183 (fun _ => True) rfl trivial) (one_ptr [w4.heap.size]) (by unfold maxLen; omega) (by omega) ?_)
          intro v7 w7 hg7
          obtain ⟨F, hU7⟩ := HUP.out wr w7 vl v7 HH.out hg7
          rw [<- HAB.out] at hU7
          have HU7 := Lib.hid hU7
          have hul7 : (us ++ [(⟨w4.heap.size, F, flat grp⟩ : Kid)]).length = j + 1 := by rw [List.length_append, hus.1]; rfl
          have HUL7 := Lib.hid hul7
          clear hg7 hU7 hul7 HRU HUP HROWU HKIDS HUROW hus
          go_wp2
          go_roundw
          case rel => exact ⟨j + 1, v7, _, by omega, by go_num, rfl, HU7.out, HUL7.out⟩
          case measure => simp [intOf]; omega
       ·obtain rfl : j = q2 := by omega
        have HRX : Hid (1 <= us.length /\ flat us = xs) := by
         refine ⟨by have := HUL.out; omega, ?_⟩
         rw [HU.out.flt, <- HQ2.out, cut_all, List.take_of_length_le (by have := HM2.out; omega)]
         exact HFX2.out
        go_wp2
        go_roundw
        case rel => exact ⟨h + 1, _, us, rfl, HU.out.up, HRX.out.1, HRX.out.2⟩
        case measure => show j < m2; omega
     ·obtain rfl : m2 = 1 := by omega
      obtain ⟨x, hx⟩ : ∃ x, ks2 = [x] := List.length_eq_one_iff.1 HM2.out
      rcases owns_cases HF2.out.row with ⟨_, e⟩ | ⟨g2, c2', e, _, _⟩
      ·rw [HM2.out] at e; omega
      ·rw [HM2.out] at e
       injection e with e1 _ e3
       subst e1 e3
       have r0 : wr.cell? ⟨g2, 0, none⟩ = some (ptrV x.b) := by
        have := HF2.out.row.cells rfl 0 (ptrV x.b) (by rw [hx]; rfl)
        rw [add_none, Nat.zero_add] at this
        exact this
       have HRES : Hid (POST (.returned (ptrV x.b)) wr) := by
        have hz1 := HPA.out.quiet.size
        rw [<- HPOST.out]
        refine ⟨x.b, h, x.F, rfl, HPA.out.quiet.trans HF2.out.quiet, ?_, fun k e => ?_⟩
        ·have := (HF2.out.kid x (by rw [hx]; simp)).2
         rw [<- HFX2.out, hx]
         simpa [flat] using this
        ·have := HF2.out.sub x (by rw [hx]; simp) k e
         omega
       clear hx
       go_wp2
       exact HRES.out
end Go.Proofs.YthipgglplneijaaGreatDoor
namespace Go.Lap
open Go.RowKit
end Go.Lap
namespace Go.Proofs.YthipgglplneijaaGreatDoor
open Go.RowKit Go.Lap
end Go.Proofs.YthipgglplneijaaGreatDoor
namespace Go.Lap
end Go.Lap
namespace Go.Proofs.YthipgglplneijaaGreatDoor
open Go.RowKit Go.Lap
theorem TreeMid.built {w0 w w' : World} {D : Nat -> Prop} {tb rb h rb' h' : Nat} {F K F' : Nat -> Prop} {xs xs' : List EV} {cnt c' : Int} (hm : TreeMid w0 w D tb rb h F K xs cnt) (hq : Quiet w w') (hn : NodeAt K h' w' rb' F' xs') (hF : ∀ k, F' k -> w.heap.size <= k /\ k < w'.heap.size) (hc : c' = (xs'.length : Int)) :
  TreeMid w0 ((w'.setCell ⟨tb, 0, none⟩ (ptrV rb')).setCell ⟨tb, 1, none⟩ (.int .i64 c')) D tb rb' h' F' K xs' c' := by
 have hz := hq.size
 have hz0 := hm.only.size
 have htb := lt_of_get hm.box
 have ho : Only (· = tb) w' ((w'.setCell ⟨tb, 0, none⟩ (ptrV rb')).setCell ⟨tb, 1, none⟩ (.int .i64 c')) := ((Only.refl (· = tb) w').setCell (p := ⟨tb, 0, none⟩) (fun _ => rfl) _).setCell (p := ⟨tb, 1, none⟩) (fun _ => rfl) _
 have hzo := ho.size
 refine ⟨(hm.only.trans' hq (fun _ _ x => x.elim)).trans' ho (fun k _ e => by rw [e]; exact hm.own.1), ?_, NodeAt.kept ho (fun k hk e => (hm.subK k hk).2.2.1 e) hn (fun k hk e => by have := (hF k hk).1; omega), fun k hk => ?_, fun k hk => ?_, hm.own⟩
 ·rw [set_same (set_same (hq.get hm.box (fun x => x)) 0 _) 1 _]; rfl
 ·have := hF k hk
  exact ⟨Or.inr (by omega), by omega, by omega⟩
 ·have := hm.subK k hk
  exact ⟨this.1, fun x => by have := (hF k x).1; omega, this.2.2.1, by omega⟩
end Go.Proofs.YthipgglplneijaaGreatDoor
namespace Go.Lap
theorem tid_cells {w : World} {S : Nat -> Prop} {A : Option Addr} {n i : Nat} {ps : List (Int × Int)} {p : Int × Int} (h : Rd w S 2 A n (tidsV ps)) (hi : ps[i]? = some p) :
  ∃ b off, A = some ⟨b, off, none⟩ /\ S b /\ w.cell? ⟨b, off + i * 2, none⟩ = some (.int .i64 p.1) /\ w.cell? ⟨b, off + i * 2 + 1, none⟩ = some (.int .i64 p.2) := by
 obtain ⟨h1, h2⟩ := tidsV_get hi
 have hl := (List.getElem?_eq_some_iff.1 h1).1
 obtain ⟨b, off, e, hs, hc⟩ := h.cells (by omega)
 exact ⟨b, off, e, hs, hc _ _ h1, by have := hc _ _ h2; rw [<- Nat.add_assoc] at this; exact this⟩
def isIn (ps : List (Int × Int)) (x : Ent) : Bool := decide ((x.pg, x.sl) ∈ ps)
def prunE (ps : List (Int × Int)) (es : List Ent) : List Ent := es.filter (fun x => !isIn ps x)
def prunX (ps : List (Int × Int)) (xs : List EV) : List EV := xs.filter (fun x => !isIn ps x.e)
theorem ents_prunX (ps : List (Int × Int)) (xs : List EV) : ents (prunX ps xs) = prunE ps (ents xs) := by
 unfold ents prunE prunX
 rw [List.filter_map]
 rfl
theorem prunX_len (ps : List (Int × Int)) (xs : List EV) : (prunX ps xs).length <= xs.length := List.length_filter_le _ _
theorem prunX_in {ps : List (Int × Int)} {x : EV} (xs : List EV) (h : isIn ps x.e = true) : prunX ps (xs ++ [x]) = prunX ps xs := by
 unfold prunX
 rw [List.filter_append, List.filter_cons_of_neg (by simp [h])]
 simp
theorem prunX_out {ps : List (Int × Int)} {x : EV} (xs : List EV) (h : isIn ps x.e = false) : prunX ps (xs ++ [x]) = prunX ps xs ++ [x] := by
 unfold prunX
 rw [List.filter_append, List.filter_cons_of_pos (by simp [h])]
 rfl
theorem prunX_same {ps : List (Int × Int)} {xs : List EV} (h : xs.length <= (prunX ps xs).length) : prunX ps xs = xs := by
 unfold prunX at h ⊢
 rw [List.filter_eq_self]
 rw [<- List.length_filter_eq_length_iff]
 exact Nat.le_antisymm (List.length_filter_le _ _) h
theorem Rising.prune {es : List Ent} (h : Rising es) (ps : List (Int × Int)) : Rising (prunE ps es) := List.Pairwise.filter _ h
theorem mem_prunX {ps : List (Int × Int)} {xs : List EV} {x : EV} (h : x ∈ prunX ps xs) : x ∈ xs := (List.mem_filter.1 h).1
end Go.Lap
namespace Go.Proofs.YthipgglplneijaaGreatDoor
open Go.RowKit Go.Lap
structure StayW (w2 wr : World) (v : Value) (ys : List EV) : Prop where
 quiet : Quiet w2 wr
 row : RowAt wr v ys
 new : ∀ k, v.ownBlock = some k -> w2.heap.size <= k
theorem StayW.quietly {w2 wr w' : World} {v : Value} {ys : List EV} (h : StayW w2 wr v ys) (hq : Quiet wr w') : StayW w2 w' v ys := ⟨h.quiet.trans hq, owns_kept h.row hq (fun _ _ x => x), h.new⟩
theorem StayW.push {w2 wr wa w5 : World} {v v5 : Value} {ys : List EV} {x : EV} {m : Nat} (h : StayW w2 wr v ys) (hm : ys.length = m) (hq : Quiet wr wa) (hg : Grew wa w5 124 3 v v5 (m + 1) (rowV ys ++ x.cells)) : StayW w2 w5 v5 (ys ++ [x]) := by
 have h1 := h.quiet.size
 have h2 := hq.size
 refine ⟨(h.quiet.trans hq).trans' hg.only (fun k hk e => by have := h.new k e; omega), ?_, fun k e => ?_⟩
 ·unfold RowAt
  rw [rowV_append, rowV_one, List.length_append, hm]
  exact hg.own
 ·rcases hg.loc with y | y
  ·rw [y] at e; exact h.new k e
  ·rw [y] at e; injection e with e; omega
def prunePostT (w : World) (D : Nat -> Prop) (tb : Nat) (es : List Ent) (ps : List (Int × Int)) (r : Ending) (w' : World) : Prop :=
 r = .returned (.int .i64 ((es.length : Int) - ((prunE ps es).length : Int))) /\ Only D w w' /\ TreeIs w' (fun k => D k ∨ w.heap.size <= k) tb (prunE ps es)
set_option maxHeartbeats 4000000 in
theorem tree_prune (w : World) (D : Nat -> Prop) (tb : Nat) (es : List Ent) (ps : List (Int × Int)) (A : Option Addr) (m c : Nat) (S : Nat -> Prop) (ht : TreeIs w D tb es) (hr : Rd w S 2 A m (tidsV ps)) (hpl : ps.length = m) (hwp : ∀ p ∈ ps, Wf p) (hwe : ∀ e ∈ es, Wf (e.pg, e.sl)) (hm : m <= 10000) (hn : es.length <= 10000) :
  Calls Tryz.prog 119 #[ptrV tb, .slice A m c] w (prunePostT w D tb es ps) := by
 obtain ⟨rb, h, F, K, xs, hmid, hes, hris⟩ := ht
 subst hes
 have hxl : xs.length <= 10000 := by simpa using hn
 have HMID := Lib.hid hmid
 have HRIS := Lib.hid hris
 have HR := Lib.hid hr
 have HPL := Lib.hid hpl
 have HWP := Lib.hid hwp
 have HWE : Hid (∀ x ∈ xs, Wf (x.e.pg, x.e.sl)) := fun x hx => hwe x.e (List.mem_map.2 ⟨x, hx, rfl⟩)
 have hex : (ents xs).length = xs.length := by simp
 have HS0 : Hid (SeenAt (w.alloc (.map #[] 0)) w.heap.size []) := seen_made w
 have HQ0 : Hid (Quiet w (w.alloc (.map #[] 0))) := (Only.refl _ _).alloc _
 obtain ⟨POST, hPOST⟩ : ∃ POST, prunePostT w D tb (ents xs) ps = POST := ⟨_, rfl⟩
 rw [hPOST]
 have HPOST := Lib.hid hPOST
 have HEX := Lib.hid hex
 have hmm := @run_makeMap Tryz.prog
 clear hmid hris hr hpl hwp hwe hPOST hn hex
 go_enter Tryz.func119, Tryz.ntmps119
 go_wp2_with fail
 go_loopw [17, 7] (fun ci _ wr => ∃ i : Nat, i <= m /\ ci = .int .i64 (i : Int) /\ Quiet w wr /\ SeenAt wr w.heap.size (ps.take i)) (fun ci _ _ => m - (intOf ci).toNat)
 case atStart => exact ⟨0, Nat.zero_le _, rfl, HQ0.out, HS0.out⟩
 case round =>
  obtain ⟨i, hi, rfl, hq, hs⟩ := hrel
  clear HS0 HQ0
  have HQ := Lib.hid hq
  have HS := Lib.hid hs
  clear hq hs
  by_cases hlt : i < m
  ·obtain ⟨p, hp⟩ : ∃ p, ps[i]? = some p := ⟨_, List.getElem?_eq_getElem (by have := HPL.out; omega)⟩
   obtain ⟨b, off, rfl, _, c0, c1⟩ := tid_cells (HR.out.kept HQ.out (fun _ _ x => x)) hp
   have HP := Lib.hid hp
   have HWF := Lib.hid (HWP.out p (List.mem_of_getElem? hp))
   have HSA := Lib.hid (HS.out.kept ((Only.refl (fun _ => False) wr).alloc (.cells #[.int .i64 p.1, .int .i64 p.2] 43)) (fun x => x))
   have HPT : Hid (ps.take i ++ [p] = ps.take (i + 1)) := (take_succ_get hp).symm
   have hpl : (ps.take i).length < maxLen := by unfold maxLen; rw [List.length_take]; omega
   have HLL := Lib.hid hpl
   have d0 : (0 : Int) <= (i : Int) := by omega
   have d1 : (i : Int) < (m : Int) := by omega
   clear hp hpl
   go_wp2_with (first | (at_mapUpdate; refine seen_put rfl _ _ _ rfl rfl rfl rfl HSA.out HWF.out HLL.out ?_) | fail)
   intro w3 hs3 ho3
   have HQ3 : Hid (Quiet w w3) := (HQ.out.alloc _).trans' ho3 (fun k hk e => by omega)
   rw [HPT.out] at hs3
   have HS3 := Lib.hid hs3
   clear hs3 ho3 c0 c1 HSA HS HPT
   go_wp2
   go_roundw
   case rel => exact ⟨i + 1, by omega, by go_num, HQ3.out, HS3.out⟩
   case measure => simp [intOf]; omega
  ·have hsl : ps.take i = ps := List.take_of_length_le (by have := HPL.out; omega)
   have HSE : Hid (SeenAt wr w.heap.size ps) := by have := HS.out; rw [hsl] at this; exact this
   have HM1 := Lib.hid (HMID.out.quietly HQ.out)
   obtain ⟨c0, c1, cf⟩ := HM1.out.cells
   have HALL := Lib.hid (all_ih K h F _ rb xs [] (.slice none 0 0) HM1.out.node (fun k x => ⟨by
     rcases x with x | x
     · exact (HM1.out.subF k x).2.2
     · exact (HM1.out.subK k x).2.2.2, fun z => by cases z⟩) (World.ownsRow_nil _ _ _ _) (by simp; omega))
   clear hsl HS
   go_wp2_with fail
   refine HALL.out.mono ?_
   rintro r w2 ⟨v2, rfl, ho2⟩
   have hq2 : Quiet wr w2 := ho2.only.mono (fun k _ e => by cases e)
   have hrow2 := ho2.row
   rw [List.nil_append] at hrow2
   obtain ⟨n, hnn⟩ : ∃ n, xs.length = n := ⟨_, rfl⟩
   have HN := Lib.hid hnn
   obtain ⟨A2, c2, hv2, hc2, hcm2, hr2⟩ := own_form hrow2
   rw [hnn] at hv2 hc2 hxl
   have HR2 := Lib.hid hr2
   have HM2 := Lib.hid (HM1.out.quietly hq2)
   have HSE2 := Lib.hid (HSE.out.kept hq2 (fun x => x))
   have HKEY := Lib.hid HM2.out.node.key
   subst hv2
   clear ho2 hq2 hrow2 hr2 hnn HALL HM1 HSE c0 c1 cf HMID
   go_wp2_with fail
   go_loopw [30, 8, 10] (fun ci cv _ wr => ∃ (j : Nat) (v' : Value), j <= n /\ ci = .int .i64 (j : Int) /\ v' = cv /\ StayW w2 wr v' (prunX ps (xs.take j))) (fun ci _ _ _ => n - (intOf ci).toNat)
   case atStart => exact ⟨0, _, Nat.zero_le _, rfl, rfl, Only.refl _ _, World.ownsRow_nil _ _ _ _, fun k e => by cases e⟩
   case round =>
    obtain ⟨j, v', hj, rfl, rfl, hW⟩ := hrel
    have HW := Lib.hid hW
    obtain ⟨Av, cv', hvv, _, _, _⟩ := own_form hW.row
    obtain ⟨q, hq⟩ : ∃ q, (prunX ps (xs.take j)).length = q := ⟨_, rfl⟩
    have hqn : q <= j := by have := prunX_len ps (xs.take j); rw [List.length_take] at this; omega
    have HQL := Lib.hid hq
    rw [hq] at hvv
    subst hvv
    clear hW hq
    by_cases hjn : j < n
    ·obtain ⟨x, hx⟩ : ∃ x, xs[j]? = some x := ⟨_, List.getElem?_eq_getElem (by have := HN.out; omega)⟩
     obtain ⟨b, off, rfl, r0, r1, r2⟩ := row_cells (HR2.out.kept HW.out.quiet (fun _ _ x => x)) hx
     have HWA := Lib.hid (HW.out.quietly ((Only.refl (fun _ => False) wr).alloc (.cells #[.slice x.A x.e.key.length x.c, .int .i64 x.e.pg, .int .i64 x.e.sl] 124)))
     have HSE3 := Lib.hid (HSE2.out.kept HWA.out.quiet (fun x => x))
     have HWF := Lib.hid (HWE.out x (List.mem_of_getElem? hx))
     have HTS := Lib.hid (take_succ_get hx)
     obtain ⟨x0, x1, x2⟩ := ent_cells (alloc_new wr (.cells #[.slice x.A x.e.key.length x.c, .int .i64 x.e.pg, .int .i64 x.e.sl] 124))
     have d0 : (0 : Int) <= (j : Int) := by omega
     have d1 : (j : Int) < (n : Int) := by omega
     clear hx
     by_cases hin : isIn ps x.e = true
     ·have HP : Hid (prunX ps (xs.take (j + 1)) = prunX ps (xs.take j)) := by
       show prunX ps (xs.take (j + 1)) = prunX ps (xs.take j)
       rw [HTS.out, prunX_in _ hin]
      have hin' : decide ((x.e.pg, x.e.sl) ∈ ps) = true := hin
      have HIN := Lib.hid hin'
      clear hin hin'
      go_wp2_with (first | (at_lookup; refine seen_look rfl _ _ rfl rfl rfl HSE3.out HWF.out HIN.out ?_) | fail)
      go_wp2
      go_roundw
      case rel => exact ⟨j + 1, _, by omega, by go_num, rfl, by rw [HP.out]; exact HWA.out⟩
      case measure => simp [intOf]; omega
     ·have hin0 : isIn ps x.e = false := by simpa using hin
      have HP : Hid (prunX ps (xs.take (j + 1)) = prunX ps (xs.take j) ++ [x]) := by
       show prunX ps (xs.take (j + 1)) = prunX ps (xs.take j) ++ [x]
       rw [HTS.out, prunX_out _ hin0]
      have hin' : decide ((x.e.pg, x.e.sl) ∈ ps) = false := hin0
      have HIN := Lib.hid hin'
      have HROW : Hid (((wr.alloc (.cells #[.slice x.A x.e.key.length x.c, .int .i64 x.e.pg, .int .i64 x.e.sl] 124)).alloc (.cells #[.slice x.A x.e.key.length x.c, .int .i64 x.e.pg, .int .i64 x.e.sl] 124)).ownsRow 0 124 3 (.slice Av q cv') q (rowV (prunX ps (xs.take j)))) := by
       have := owns_kept HWA.out.row ((Only.refl (fun _ => False) _).alloc (.cells #[.slice x.A x.e.key.length x.c, .int .i64 x.e.pg, .int .i64 x.e.sl] 124)) (fun _ _ x => x)
       rw [HQL.out] at this
       exact this
      have HQ4 := Lib.hid ((Only.refl (fun _ => False) (wr.alloc (.cells #[.slice x.A x.e.key.length x.c, .int .i64 x.e.pg, .int .i64 x.e.sl] 124))).alloc (.cells #[.slice x.A x.e.key.length x.c, .int .i64 x.e.pg, .int .i64 x.e.sl] 124))
      have HRN : Hid (Rd ((wr.alloc (.cells #[.slice x.A x.e.key.length x.c, .int .i64 x.e.pg, .int .i64 x.e.sl] 124)).alloc (.cells #[.slice x.A x.e.key.length x.c, .int .i64 x.e.pg, .int .i64 x.e.sl] 124)) (fun _ => True) 3 (some ⟨wr.heap.size + 1, 0, none⟩) 1 x.cells) := by
       have := Rd.new (wr.alloc (.cells #[.slice x.A x.e.key.length x.c, .int .i64 x.e.pg, .int .i64 x.e.sl] 124)) 3 1 x.cells 124 (fun _ => True) rfl trivial
       rw [World.size_alloc] at this
       exact this
      clear hin hin0 hin'
      go_wp2_with (first
        | (at_lookup; refine seen_look rfl _ _ rfl rfl rfl HSE3.out HWF.out HIN.out ?_)
        | (at_builtin; refine app elem_ent rfl (.tmp 39) (.tmp 41) rfl rfl HROW.out rfl HRN.out (one_row [x]) (by unfold maxLen; omega) (by omega) ?_)
        | fail)
      intro v5 w5 hg5
      have hW5 := HWA.out.push HQL.out HQ4.out hg5
      rw [<- HP.out] at hW5
      have HW5 := Lib.hid hW5
      clear hg5 hW5 HROW HQ4 HWA r0 r1 r2 x0 x1 x2
      go_wp2
      go_roundw
      case rel => exact ⟨j + 1, _, by omega, by go_num, rfl, HW5.out⟩
      case measure => simp [intOf]; omega
    ·have hsx : xs.take j = xs := List.take_of_length_le (by have := HN.out; omega)
     have hW := HW.out
     have hQL := HQL.out
     rw [hsx] at hW hQL
     have HM3 := Lib.hid (HM2.out.quietly hW.quiet)
     obtain ⟨c0, c1, cf⟩ := HM3.out.cells
     rw [HN.out] at c1
     by_cases hqn2 : q < n
     ·have hkey3 : ∀ y ∈ prunX ps xs, Keyd wr K y := fun y hy => (HKEY.out y (mem_prunX hy)).quietly hW.quiet
      obtain ⟨A4, c4, hv4, hc4, hcm4, hrd4⟩ := own_form hW.row
      rw [hQL] at hv4 hc4 hrd4
      injection hv4 with e1 _ e3
      subst e1 e3
      have HB := Lib.hid (build_any K _ (prunX ps xs) Av q cv' wr hQL hrd4 hkey3 (fun k x => (HM3.out.subK k x).2.2.2) hc4 hcm4 (by omega))
      have HPL2 := Lib.hid hQL
      have d0 : ((0 : Int) < (n : Int) - (q : Int)) := by omega
      clear hsx hW hQL hkey3 hc4 hcm4 hrd4 HQL HW
      go_wp2_with fail
      refine HB.out.mono ?_
      rintro r w5 ⟨rb5, h5, F5, rfl, hq5, hn5, hF5⟩
      obtain ⟨k0, k1, kf⟩ := (HM3.out.quietly hq5).cells
      have HRES : Hid (POST (.returned (.int .i64 ((n : Int) - (q : Int)))) ((w5.setCell ⟨tb, 0, none⟩ (ptrV rb5)).setCell ⟨tb, 1, none⟩ (.int .i64 (q : Int)))) := by
       have h6 := HM3.out.built hq5 hn5 hF5 (c' := (q : Int)) (by rw [HPL2.out])
       rw [<- HPOST.out]
       have h7 : (prunE ps (ents xs)).length = q := by rw [<- ents_prunX, List.length_map, HPL2.out]
       refine ⟨by rw [HEX.out, HN.out, h7], h6.only, ?_⟩
       have := h6.is (by rw [HPL2.out]) (by rw [ents_prunX]; exact HRIS.out.prune ps)
       rw [ents_prunX] at this
       exact this
      clear hn5 hF5 hq5 HB HM3 c0 c1 cf
      go_wp2
      exact HRES.out
     ·have hsame := prunX_same (ps := ps) (xs := xs) (by rw [hQL, HN.out]; omega)
      have HRES : Hid (POST (.returned (.int .i64 ((n : Int) - (q : Int)))) wr) := by
       rw [<- HPOST.out]
       have h7 : (prunE ps (ents xs)).length = q := by rw [<- ents_prunX, List.length_map, hQL]
       refine ⟨by rw [HEX.out, HN.out, h7], HM3.out.only, ?_⟩
       rw [<- ents_prunX, hsame]
       exact HM3.out.is rfl HRIS.out
      have d0 : ¬ ((0 : Int) < (n : Int) - (q : Int)) := by omega
      clear hsx hW hQL hsame HQL HW
      go_wp2
      exact HRES.out
end Go.Proofs.YthipgglplneijaaGreatDoor
namespace Go.Lap
def deadA (L : List Nat) (H : List (List (Option Tup))) (hz : Nat) (a : Int × Int) : Bool := match hGet H a.1 a.2 with | some v => deadS L v.xmin v.xmax hz | none => false
def relH (L : List Nat) (hz : Nat) (H : List (List (Option Tup))) (l : List (Int × Int)) : List (List (Option Tup)) := l.foldl (fun H a => if deadA L H hz a then (hFree H a.1 a.2).2 else H) H
theorem relH_snoc (L : List Nat) (hz : Nat) (H : List (List (Option Tup))) (l : List (Int × Int)) (a : Int × Int) : relH L hz H (l ++ [a]) = if deadA L (relH L hz H l) hz a then (hFree (relH L hz H l) a.1 a.2).2 else relH L hz H l := by
 unfold relH
 rw [List.foldl_append]
 rfl
end Go.Lap
namespace Go.Proofs.YthipgglplneijaaGreatDoor
open Go.RowKit Go.Lap
theorem HorSt.same {s : St} {a b : Nat} (h : HorSt s a) (k : HorSt s b) : a = b := by
 by_cases e : ∃ x y, s.sn x = some y
 ·obtain ⟨x, y, e1, e2⟩ := h.some_ e
  obtain ⟨x', y', e3, e4⟩ := k.some_ e
  have h1 := h.least x' y' e3
  have h2 := k.least x y e1
  omega
 ·have e' : ∀ x, s.sn x = none := fun x => by
   rcases hx : s.sn x with _ | y
   ·rfl
   ·exact absurd ⟨x, y, hx⟩ e
  rw [h.none_ e', k.none_ e']
set_option maxHeartbeats 4000000 in
theorem store_dead {w : World} {sb id hz : Nat} {o : Nat -> Nat} {s : St} {H : List (List (Option Tup))} {pg sl : Int} {v : Tup} (h : StoreAt w sb o s) (hid : U64 id) (hH : s.hs id = some H) (hg : hGet H pg sl = some v) (hx1 : U64 v.xmin) (hx2 : U64 v.xmax) :
  Calls Tryz.prog 118 #[ptrV sb, .int .u64 (id : Int), .agg #[.int .i64 pg, .int .i64 sl], .int .u64 (hz : Int)] w (BoolQ w (deadS s.L v.xmin v.xmax hz)) := by
 obtain ⟨lb, bb, pb, mh, mt, ms, fh, ft, fs, h⟩ := h
 obtain ⟨hb, hfh, hp⟩ := h.heaps.2 id H hH
 have HH := Lib.hid h
 have HP := Lib.hid hp
 have HF := Lib.hid hfh
 have HID := Lib.hid hid
 have HGV := Lib.hid hg
 have HV1 := Lib.hid (And.intro hx1 hx2)
 obtain ⟨r, hrv⟩ : ∃ r, deadS s.L v.xmin v.xmax hz = r := ⟨_, rfl⟩
 have HRV := Lib.hid hrv
 obtain ⟨POST, hPOST⟩ : ∃ POST, BoolQ w (deadS s.L v.xmin v.xmax hz) = POST := ⟨_, rfl⟩
 rw [hPOST]
 rw [hrv] at hPOST
 have HPOST := Lib.hid hPOST
 have hqb : Quiet w (w.alloc (.cells #[.int .i64 pg, .int .i64 sl] 43)) := (Only.refl _ _).alloc _
 have hat := alloc_new w (.cells #[.int .i64 pg, .int .i64 sl] 43)
 obtain ⟨at_, hat_⟩ : ∃ at_, w.heap.size = at_ := ⟨_, rfl⟩
 rw [hat_] at hat
 clear h hfh hp hid hg hx1 hx2 hrv hPOST hH
 go_enter Tryz.func118, Tryz.ntmps118
 go_wp2_with fail
 (try rw [hat_])
 generalize w.alloc (.cells #[.int .i64 pg, .int .i64 sl] 43) = wb at *
 have HQB := Lib.hid hqb
 have HAT := Lib.hid hat
 clear hqb hat hat_
 have HS5 : Hid (∀ W, Quiet wb W -> (fun w' => w'.cell? ⟨sb, 3, none⟩ = some (.map (some mh)) /\ w'.cell? ⟨at_, 0, none⟩ = some (.int .i64 pg) /\ w'.cell? ⟨at_, 1, none⟩ = some (.int .i64 sl) /\ (Instr.lookup 63 (.map (some mh)) (.int .u64 (id : Int)) false).run Tryz.prog w' = .ok (ptrV hb) w') W) := fun W hq => by
  have hq2 := HQB.out.trans hq
  have h2 := HH.out.quietly hq2
  have b7 := hq.get HAT.out (fun x => x)
  exact ⟨h2.cells.2.2.2.1, by rw [cell_of b7]; rfl, by rw [cell_of b7]; rfl, look_heap h2.mH HF.out HID.out⟩
 have HGET : Hid (∀ W, Quiet wb W -> Calls Tryz.prog 44 #[ptrV hb, .agg #[.int .i64 pg, .int .i64 sl]] W (GetSome W v)) := fun W hq => heap_get_some pg sl v (HP.out.kept (HQB.out.trans hq) (fun _ _ x => x)) HGV.out
 apply got_key (wb := wb) (t := v)
 case main =>
       intro KEY
       refine zH HS5 (Only.refl _ _).drew (fun hHeld => ?_)
       simp only [List.size_toArray, List.length_cons, List.length_nil, Nat.reduceAdd]
       have q0 : Quiet wb wb.drew := (Only.refl _ _).drew
       generalize wb.drew = d0 at q0 hHeld ⊢
       refine zT 0 ?_
       refine zT 1 ?_
       refine zT 2 ?_
       refine zT 3 ?_
       refine zT 4 ?_
       refine zT 5 ?_
       refine zT 6 ?_
       refine wpAnyH_ready (rs := [7, 11]) (by kernel_rfl) (by simp) ?_
       refine zA ?_ ?_
       · intro K hK
         go_simp
         go_at_call 44
         refine (HGET.out _ q0).mono ?_
         rintro e d2 ⟨A4, c4, rfl, hf4⟩
         have q2 := q0.trans hf4.quiet
         have hown := hf4.own
         have hfn : ∀ k, (Value.slice A4 v.data.length c4).ownBlock = some k -> wb.heap.size <= k := fun k e => Nat.le_trans (q0).size (hf4.new k e)
         clear hf4
         unfold tupV
         dsimp only
         refine hK.out _ _ ?_ (fun hHeld => ?_)
         · exact HS5.out _ q2
         clear hK K
         (try simp only [Act.put, zPA, zPZ, zPS])
         refine zT 8 ?_
         refine zT 9 ?_
         refine zT 10 ?_
         refine zR 11 ?_
         intro K hK
         go_simp
         refine hK.out _ _ ?_ (fun hHeld => ?_)
         · exact HS5.out _ (q2.alloc _)
         clear hK K
         (try simp only [Act.put, zPA, zPZ, zPS])
         have qd3 : Quiet wb (d2.alloc (.cells #[.int .u64 0, .int .u64 0, .int .u64 0, .int .i64 0, .int .i64 0, .slice none 0 0] 95)) := q2.alloc _
         have hb1 := alloc_new d2 (.cells #[.int .u64 0, .int .u64 0, .int .u64 0, .int .i64 0, .int .i64 0, .slice none 0 0] 95)
         have hnp : wb.heap.size <= d2.heap.size := q2.size
         have hown := owns_kept hown ((Only.refl (fun _ => False) d2).alloc (.cells #[.int .u64 0, .int .u64 0, .int .u64 0, .int .i64 0, .int .i64 0, .slice none 0 0] 95)) (fun _ _ x => x)
         obtain ⟨pt, hpt⟩ : ∃ pt, d2.heap.size = pt := ⟨_, rfl⟩
         rw [hpt] at hb1 hnp ⊢
         generalize d2.alloc (.cells #[.int .u64 0, .int .u64 0, .int .u64 0, .int .i64 0, .int .i64 0, .slice none 0 0] 95) = d3 at *
         clear hpt
         have z0 := cell_of hb1 0
         have z1 := cell_of hb1 1
         have z2 := cell_of hb1 2
         have z3 := cell_of hb1 3
         have z4 := cell_of hb1 4
         have z5 := cell_of hb1 5
         have zf := fun o => frozen_of hb1 o
         simp only [zGA, zGS, zGZ] at z0 z1 z2 z3 z4 z5
         refine zR 12 ?_
         intro K hK
         go_simp
         refine hK.out _ _ ?_ (fun hHeld => ?_)
         · exact HS5.out _ (got_leaf qd3 hb1 hnp hown hfn).quiet
         clear hK K
         (try simp only [Act.put, zPA, zPZ, zPS])
         have HG := got_leaf qd3 hb1 hnp hown hfn
         unfold sixSet at HG
         refine zT 13 ?_
         refine wpAnyH_done (by kernel_rfl) ?_ _
         generalize ((((((d3.setCell ⟨pt, 0, none⟩ (.int .u64 v.row)).setCell ⟨pt, 1, none⟩ (.int .u64 v.xmin)).setCell ⟨pt, 2, none⟩ (.int .u64 v.xmax)).setCell ⟨pt, 3, none⟩ (.int .i64 v.pg)).setCell ⟨pt, 4, none⟩ (.int .i64 v.sl)).setCell ⟨pt, 5, none⟩ (.slice A4 v.data.length c4)) = WF at HG ⊢
         exact KEY _ _ _ _ HG
       refine zA ?_ AllReadyH.nil
       intro K hK
       go_simp
       refine hK.out _ _ ?_ (fun hHeld => ?_)
       · exact HS5.out _ (q0.alloc _)
       clear hK K
       (try simp only [Act.put, zPA, zPZ, zPS])
       have qd1 : Quiet wb (d0.alloc (.cells #[.int .u64 0, .int .u64 0, .int .u64 0, .int .i64 0, .int .i64 0, .slice none 0 0] 95)) := q0.alloc _
       have hb1 := alloc_new d0 (.cells #[.int .u64 0, .int .u64 0, .int .u64 0, .int .i64 0, .int .i64 0, .slice none 0 0] 95)
       have hnp : wb.heap.size <= d0.heap.size := q0.size
       obtain ⟨pt, hpt⟩ : ∃ pt, d0.heap.size = pt := ⟨_, rfl⟩
       rw [hpt] at hb1 hnp ⊢
       generalize d0.alloc (.cells #[.int .u64 0, .int .u64 0, .int .u64 0, .int .i64 0, .int .i64 0, .slice none 0 0] 95) = d1 at *
       clear hpt
       refine zR 7 ?_
       intro K hK
       go_simp
       go_at_call 44
       refine (HGET.out _ qd1).mono ?_
       rintro e d2 ⟨A4, c4, rfl, hf4⟩
       have q2 := qd1.trans hf4.quiet
       have hb2 := hf4.quiet.get hb1 (fun x => x)
       have hown := hf4.own
       have hfn : ∀ k, (Value.slice A4 v.data.length c4).ownBlock = some k -> wb.heap.size <= k := fun k e => Nat.le_trans (qd1).size (hf4.new k e)
       clear hf4
       unfold tupV
       dsimp only
       refine hK.out _ _ ?_ (fun hHeld => ?_)
       · exact HS5.out _ q2
       clear hK K
       (try simp only [Act.put, zPA, zPZ, zPS])
       have z0 := cell_of hb2 0
       have z1 := cell_of hb2 1
       have z2 := cell_of hb2 2
       have z3 := cell_of hb2 3
       have z4 := cell_of hb2 4
       have z5 := cell_of hb2 5
       have zf := fun o => frozen_of hb2 o
       simp only [zGA, zGS, zGZ] at z0 z1 z2 z3 z4 z5
       refine zT 8 ?_
       refine zT 9 ?_
       refine zT 10 ?_
       refine zR 12 ?_
       intro K hK
       go_simp
       refine hK.out _ _ ?_ (fun hHeld => ?_)
       · exact HS5.out _ (got_leaf q2 hb2 hnp hown hfn).quiet
       clear hK K
       (try simp only [Act.put, zPA, zPZ, zPS])
       have HG := got_leaf q2 hb2 hnp hown hfn
       unfold sixSet at HG
       refine zT 13 ?_
       refine wpAnyH_done (by kernel_rfl) ?_ _
       generalize ((((((d2.setCell ⟨pt, 0, none⟩ (.int .u64 v.row)).setCell ⟨pt, 1, none⟩ (.int .u64 v.xmin)).setCell ⟨pt, 2, none⟩ (.int .u64 v.xmax)).setCell ⟨pt, 3, none⟩ (.int .i64 v.pg)).setCell ⟨pt, 4, none⟩ (.int .i64 v.sl)).setCell ⟨pt, 5, none⟩ (.slice A4 v.data.length c4)) = WF at HG ⊢
       exact KEY _ _ _ _ HG
 case key =>
  intro A4 c4 pt W HL0
  have HL := Lib.hid HL0
  clear HL0 HS5 HGET
  have HQW : Hid (Quiet w W) := HQB.out.trans HL.out.quiet
  have HS6 : Hid (∀ W', Quiet W W' -> (fun w' => w'.cell? ⟨sb, 0, none⟩ = some (ptrV lb) /\ w'.cell? ⟨pt, 0, none⟩ = some (.int .u64 v.row) /\ w'.cell? ⟨pt, 1, none⟩ = some (.int .u64 v.xmin) /\ w'.cell? ⟨pt, 2, none⟩ = some (.int .u64 v.xmax) /\ w'.cell? ⟨pt, 3, none⟩ = some (.int .i64 v.pg) /\ w'.cell? ⟨pt, 4, none⟩ = some (.int .i64 v.sl) /\ w'.cell? ⟨pt, 5, none⟩ = some (.slice A4 v.data.length c4)) W') := fun W' hq => by
   have bt := hq.get HL.out.box (fun x => x)
   refine ⟨((HH.out.quietly HQW.out).quietly hq).cells.1, ?_, ?_, ?_, ?_, ?_, ?_⟩ <;> (rw [cell_of bt]; rfl)
  have HDEAD : Hid (∀ W', Quiet W W' -> Calls Tryz.prog 45 #[ptrV lb, tupV v A4 c4, .int .u64 (hz : Int)] W' (BoolQ W' r)) := fun W' hq => by
   rw [<- HRV.out]
   exact snap_dead v A4 c4 hz ((HH.out.quietly HQW.out).quietly hq).log HV1.out.1 HV1.out.2
  unfold tupV at HDEAD
  go_wp2_with fail
  refine zH HS6 (Only.refl _ _).drew (fun hHeld => ?_)
  simp only [List.size_toArray, List.length_cons, List.length_nil, Nat.reduceAdd]
  have q6 : Quiet W W.drew := (Only.refl _ _).drew
  generalize W.drew = d6 at q6 hHeld ⊢
  refine zT 0 ?_
  refine zT 1 ?_
  refine zT 2 ?_
  refine zT 3 ?_
  refine zT 4 ?_
  refine zT 5 ?_
  refine zT 6 ?_
  refine zT 7 ?_
  refine zR 8 ?_
  intro K hK
  go_simp
  go_at_call 45
  refine (HDEAD.out _ q6).mono ?_
  rintro e d7 ⟨rfl, hq7⟩
  have q7 := q6.trans hq7
  clear hq7
  dsimp only
  refine hK.out _ _ ?_ (fun hHeld => ?_)
  ·exact HS6.out _ q7
  clear hK K
  (try simp only [Act.put, zPA, zPZ, zPS])
  refine zT 9 ?_
  refine zT 10 ?_
  refine wpAnyH_done (by kernel_rfl) ?_ _
  have HEND : Hid (POST (.returned (.bool r)) d7) := by
   rw [<- HPOST.out]
   exact ⟨rfl, HQW.out.trans q7⟩
  clear hHeld q6 q7 HS6 HDEAD
  go_wp2
  exact HEND.out
set_option maxHeartbeats 400000 in
theorem store_pages {w : World} {sb id : Nat} {o : Nat -> Nat} {s : St} {H : List (List (Option Tup))} (h : StoreAt w sb o s) (hid : U64 id) (hH : s.hs id = some H) :
  Calls Tryz.prog 75 #[ptrV sb, .int .u64 (id : Int)] w (fun e w' => e = .returned (.int .i64 (H.length : Int)) /\ Quiet w w') := by
 obtain ⟨lb, bb, pb, mh, mt, ms, fh, ft, fs, h⟩ := h
 obtain ⟨_, _, _, c3, _⟩ := h.cells
 have lsb := cell_lt c3
 dsimp only at lsb
 obtain ⟨hb, hf, hp⟩ := h.heaps.2 id H hH
 have hlk := look_heap h.mH hf hid
 have HPG := Lib.hid (heap_pages hp)
 clear h hp hf
 go_enter Tryz.func75, Tryz.ntmps75
 go_wp2_with fail
 refine HPG.out.mono ?_
 rintro e w1 ⟨rfl, rfl⟩
 go_wp2
 go_ret
 exact ⟨rfl, Only.refl _ _⟩
theorem mem_placesTo_k {p : Int} {T : List (Option Tup)} {k : Nat} {H : List (List (Option Tup))} (hT : H[k]? = some T) (hp : p = (k : Int)) {a : Int × Int} (h : a ∈ placesTo p T T.length) : ∃ v, hGet H a.1 a.2 = some v := by
 obtain ⟨e1, t, e2⟩ := mem_placesTo h
 exact ⟨t, by rw [e1, hp, hGet_in _ hT]; exact e2⟩
def NumHeap (H : List (List (Option Tup))) : Prop := ∀ pg sl v, hGet H pg sl = some v -> U64 v.xmin /\ U64 v.xmax
set_option maxHeartbeats 4000000 in
theorem store_gather {w : World} {sb id hz k N : Nat} {o : Nat -> Nat} {s : St} {H : List (List (Option Tup))} {T : List (Option Tup)} (h : StoreAt w sb o s) (hid : U64 id) (hH : s.hs id = some H) (hT : H[k]? = some T) (hnum : NumHeap H) (hh : HorSt s hz) (hL : s.L.length < 1000000000) (hN : ∀ x y, s.sn x = some y -> x <= N) (hN2 : N <= 2000000) (hlen : (placesTo (k : Int) T T.length).length <= 1000000) :
  Calls Tryz.prog 76 #[ptrV sb, .int .u64 (id : Int), .int .i64 (k : Int)] w (ChainPost w ((placesTo (k : Int) T T.length).filter (deadA s.L H hz))) := by
 have HST := Lib.hid h
 obtain ⟨lb, bb, pb, mh, mt, ms, fh, ft, fs, h⟩ := h
 obtain ⟨_, _, _, c3, _⟩ := h.cells
 have lsb := cell_lt c3
 dsimp only at lsb
 obtain ⟨hb, hf, hp⟩ := h.heaps.2 id H hH
 have hlk := look_heap h.mH hf hid
 have HPL := Lib.hid (heap_plist k T hp hT)
 have HID := Lib.hid hid
 have HHH := Lib.hid hH
 have HNUM := Lib.hid hnum
 have HHZ := Lib.hid hh
 have HNN := Lib.hid (And.intro hL (And.intro hN hN2))
 have HPN : Hid (∀ a ∈ placesTo (k : Int) T T.length, ∃ v, hGet H a.1 a.2 = some v) := fun a ha => mem_placesTo_k hT rfl ha
 obtain ⟨POST, hPOST⟩ : ∃ POST, ChainPost w ((placesTo (k : Int) T T.length).filter (deadA s.L H hz)) = POST := ⟨_, rfl⟩
 rw [hPOST]
 obtain ⟨pl, hpl⟩ : ∃ pl, placesTo (k : Int) T T.length = pl := ⟨_, rfl⟩
 rw [hpl] at HPL HPN hPOST hlen
 have HPOST := Lib.hid hPOST
 obtain ⟨n, hn⟩ : ∃ n, pl.length = n := ⟨_, rfl⟩
 rw [hn] at hlen
 have HN := Lib.hid hn
 clear h hp hf hid hH hT hnum hh hL hN hN2 hPOST hpl hn
 go_enter Tryz.func76, Tryz.ntmps76
 go_wp2_with fail
 refine HPL.out.mono ?_
 rintro e w1 ⟨vp, rfl, hq1, _, hr1⟩
 obtain ⟨A3, c3_, rfl, hc3, hm3, hrd⟩ := own_form hr1
 have HQ1 := Lib.hid hq1
 have HLD := Lib.hid hrd
 have hnn := HN.out
 rw [hnn] at hc3 ⊢
 unfold maxLen at hm3
 clear hq1 hr1 hrd hnn HPL hlk
 go_wp2_with fail
 go_loopw [21, 7, 9] (fun i v _ wr => ∃ (k : Nat) (v' : Value), k <= n /\ i = .int .i64 (k : Int) /\ v = v' /\ TidsW w1 wr v' ((pl.take k).filter (deadA s.L H hz))) (fun i _ _ _ => n - (intOf i).toNat)
 case atStart => exact ⟨0, _, Nat.zero_le _, rfl, rfl, TidsW.start (Only.refl _ _)⟩
 case round =>
  obtain ⟨j, v', hk, rfl, rfl, hW⟩ := hrel
  have HW := Lib.hid hW
  clear hW
  by_cases hlt : j < n
  ·obtain ⟨⟨pg, sl⟩, ha⟩ : ∃ a, pl[j]? = some a := ⟨_, List.getElem?_eq_getElem (by have := HN.out; omega)⟩
   obtain ⟨v, hgv⟩ := HPN.out (pg, sl) (List.mem_of_getElem? ha)
   obtain ⟨hx1, hx2⟩ := HNUM.out pg sl v hgv
   obtain ⟨bl, ofl, rfl, _, la, lb2⟩ := place_cells (HLD.out.kept HW.out.quiet (fun _ _ x => x)) ha
   obtain ⟨r, hrv⟩ : ∃ r, deadS s.L v.xmin v.xmax hz = r := ⟨_, rfl⟩
   have HTK : Hid ((pl.take (j + 1)).filter (deadA s.L H hz) = (pl.take j).filter (deadA s.L H hz) ++ if r then [(pg, sl)] else []) := by
    show _ = _
    rw [List.take_add_one, ha, Option.toList_some, List.filter_append]
    have e1 : deadA s.L H hz (pg, sl) = r := by unfold deadA; rw [hgv]; exact hrv
    cases r <;> simp [e1]
   have HPLN : Hid (((pl.take j).filter (deadA s.L H hz)).length <= j) := by
    have h1 := List.length_filter_le (deadA s.L H hz) (pl.take j)
    rw [List.length_take] at h1
    show _ <= _
    omega
   have hqb : Quiet wr (wr.alloc (.cells #[.int .i64 pg, .int .i64 sl] 43)) := (Only.refl _ _).alloc _
   have hat := alloc_new wr (.cells #[.int .i64 pg, .int .i64 sl] 43)
   obtain ⟨at_, hat_⟩ : ∃ at_, wr.heap.size = at_ := ⟨_, rfl⟩
   rw [hat_] at hat
   have HQB : Hid (Quiet w (wr.alloc (.cells #[.int .i64 pg, .int .i64 sl] 43))) := (HQ1.out.trans HW.out.quiet).trans hqb
   have HWB := Lib.hid (HW.out.quietly hqb)
   have HDD : Hid (∀ W, Quiet (wr.alloc (.cells #[.int .i64 pg, .int .i64 sl] 43)) W -> Calls Tryz.prog 118 #[ptrV sb, .int .u64 (id : Int), .agg #[.int .i64 pg, .int .i64 sl], .int .u64 (hz : Int)] W (BoolQ W r)) := fun W hq => by
    rw [<- hrv]
    exact store_dead (HST.out.quietly (HQB.out.trans hq)) HID.out HHH.out hgv hx1 hx2
   have HHO : Hid (∀ W, Quiet (wr.alloc (.cells #[.int .i64 pg, .int .i64 sl] 43)) W -> Calls Tryz.prog 43 #[ptrV sb] W (fun e w' => e = .returned (.int .u64 (hz : Int)) /\ Quiet W w')) := fun W hq => by
    refine (store_horizon (HST.out.quietly (HQB.out.trans hq)) HNN.out.1 HNN.out.2.1 HNN.out.2.2).mono ?_
    rintro e w' ⟨z, rfl, hh, hq'⟩
    rw [hh.same HHZ.out]
    exact ⟨rfl, hq'⟩
   dsimp only at la lb2
   clear ha hgv hx1 hx2 hrv
   go_wp2_with fail
   (try rw [hat_])
   generalize wr.alloc (.cells #[.int .i64 pg, .int .i64 sl] 43) = wb at *
   have HAT := Lib.hid hat
   clear la lb2 hat hqb hat_
   have HS6 : Hid (∀ W, Quiet wb W -> (fun w' => w'.cell? ⟨at_, 0, none⟩ = some (.int .i64 pg) /\ w'.cell? ⟨at_, 1, none⟩ = some (.int .i64 sl)) W) := fun W hq => by
    have b7 := hq.get HAT.out (fun x => x)
    exact ⟨by rw [cell_of b7]; rfl, by rw [cell_of b7]; rfl⟩
   generalize (pl.take j).filter (deadA s.L H hz) = fl at HWB HTK HPLN
   refine zH HS6 (Only.refl _ _).drew (fun hHeld => ?_)
   simp only [List.size_toArray, List.length_cons, List.length_nil, Nat.reduceAdd]
   have q0 : Quiet wb wb.drew := (Only.refl _ _).drew
   generalize wb.drew = d0 at q0 hHeld ⊢
   refine zT 0 ?_
   refine zT 1 ?_
   refine zT 2 ?_
   refine zT 3 ?_
   refine zR 4 ?_
   intro K hK
   go_simp
   go_at_call 43
   refine (HHO.out _ q0).mono ?_
   rintro e d1 ⟨rfl, hq1⟩
   have q1 := q0.trans hq1
   clear hq1
   dsimp only
   refine hK.out _ _ ?_ (fun hHeld => ?_)
   ·exact HS6.out _ q1
   clear hK K
   (try simp only [Act.put, zPA, zPZ, zPS])
   refine zR 5 ?_
   intro K hK
   go_simp
   go_at_call 118
   refine (HDD.out _ q1).mono ?_
   rintro e d2 ⟨rfl, hq2⟩
   have q2 := q1.trans hq2
   clear hq2
   dsimp only
   refine hK.out _ _ ?_ (fun hHeld => ?_)
   ·exact HS6.out _ q2
   clear hK K
   (try simp only [Act.put, zPA, zPZ, zPS])
   refine wpAnyH_done (by kernel_rfl) ?_ _
   have HW7 := Lib.hid (HWB.out.quietly q2)
   have HA7 := Lib.hid (q2.get HAT.out (fun x => x))
   clear hHeld q0 q1 q2 HS6 HDD HHO HW HWB
   cases r with
   | false =>
    have HEND := HW7
    rw [if_neg (by decide), List.append_nil] at HTK
    rw [<- HTK.out] at HEND
    go_wp2
    go_roundw
    case rel => exact ⟨j + 1, _, by omega, by go_num, rfl, HEND.out⟩
    case measure => simp [intOf]; omega
   | true =>
    rw [if_pos rfl] at HTK
    have a0 : d2.cell? ⟨at_, 0, none⟩ = some (.int .i64 pg) := by rw [cell_of HA7.out]; rfl
    have a1 : d2.cell? ⟨at_, 1, none⟩ = some (.int .i64 sl) := by rw [cell_of HA7.out]; rfl
    have lat := cell_lt a0
    dsimp only at lat
    have HOWN : Hid (World.ownsRow (d2.alloc (.cells #[.int .i64 pg, .int .i64 sl] 43)) 0 43 2 u7 fl.length (tidsV fl)) := owns_kept HW7.out.row ((Only.refl (fun _ => False) d2).alloc _) (fun _ _ x => x)
    have HRD := Lib.hid (Rd.new d2 2 1 (tidsV [(pg, sl)]) 43 (fun _ => True) rfl trivial)
    have hfl := HPLN.out
    go_wp2_with (at_builtin; refine app elem_tid rfl (.tmp 31) (.tmp 33) rfl rfl HOWN.out rfl HRD.out (one_tids [(pg, sl)]) (by unfold maxLen; omega) (by omega) ?_)
    intro v4 w4 hg4
    have HP := Lib.hid (HW7.out.step (p := (pg, sl)) hg4)
    rw [<- HTK.out] at HP
    clear hg4 HOWN HRD
    go_wp2
    go_roundw
    case rel => exact ⟨j + 1, _, by omega, by go_num, rfl, HP.out⟩
    case measure => simp [intOf]; omega
  ·obtain rfl : j = n := by omega
   have HEND : Hid (POST (.returned u7) wr) := by
    rw [<- HPOST.out]
    have := HW.out
    rw [List.take_of_length_le (by have := HN.out; omega)] at this
    exact ⟨u7, rfl, HQ1.out.trans this.quiet, fun k e => Nat.le_trans HQ1.out.size (this.own k e), this.row⟩
   go_wp2
   exact HEND.out
def UnlinkPost (w : World) (sb : Nat) (o : Nat -> Nat) (s : St) (id : Nat) (es : List Ent) (ps : List (Int × Int)) (e : Ending) (w' : World) : Prop :=
 e = .returned (.int .i64 ((es.length : Int) - ((prunE ps es).length : Int))) /\ StepTo w sb o { s with ts := upd s.ts id (some (prunE ps es)) } w'
set_option maxHeartbeats 800000 in
theorem store_unlink {w : World} {sb id m c : Nat} {o : Nat -> Nat} {s : St} {es : List Ent} {ps : List (Int × Int)} {A : Option Addr} {S : Nat -> Prop} (h : StoreAt w sb o s) (hid : U64 id) (hts : s.ts id = some es) (hr : Rd w S 2 A m (tidsV ps)) (hpl : ps.length = m) (hwp : ∀ p ∈ ps, Wf p) (hwe : ∀ e ∈ es, Wf (e.pg, e.sl)) (hm : m <= 10000) (hn : es.length <= 10000) :
  Calls Tryz.prog 78 #[ptrV sb, .int .u64 (id : Int), .slice A m c] w (UnlinkPost w sb o s id es ps) := by
 obtain ⟨lb, bb, pb, mh, mt, ms, fh, ft, fs, h⟩ := h
 obtain ⟨_, _, _, _, c4, _⟩ := h.cells
 have lsb := cell_lt c4
 dsimp only at lsb
 obtain ⟨tb, hf, ht⟩ := h.trees.2 id es hts
 have hlk := look_tree h.mT hf hid
 have HPR := Lib.hid (tree_prune w (fun k => o k = 11 + 2 * id) tb es ps A m c S ht hr hpl hwp hwe hm hn)
 have HH := Lib.hid h
 have HF := Lib.hid hf
 obtain ⟨POST, hPOST⟩ : ∃ POST, UnlinkPost w sb o s id es ps = POST := ⟨_, rfl⟩
 rw [hPOST]
 have HPOST := Lib.hid hPOST
 clear h hf ht hr hpl hwp hwe hm hn hPOST
 go_enter Tryz.func78, Tryz.ntmps78
 go_wp2_with fail
 refine HPR.out.mono ?_
 rintro e w1 ⟨rfl, ho, ht⟩
 have HEND : Hid (POST (.returned (.int .i64 ((es.length : Int) - ((prunE ps es).length : Int)))) w1) := by
  rw [<- HPOST.out]
  have hst := HH.out.setTree HF.out ho ht
  refine ⟨rfl, _, fun k hk => grow_old hk, ho.mono (fun k _ x => by omega), _, _, _, _, _, _, _, _, _, hst⟩
 clear ho ht HPR hlk
 go_wp2
 exact HEND.out
theorem rd_in {w : World} {S : Nat -> Prop} {size n : Nat} {A : Option Addr} {xs : List Value} (h : Rd w S size A n xs) : Rd w (fun k => S k /\ k < w.heap.size) size A n xs :=
 ⟨h.len, fun h0 => by
   obtain ⟨b, off, e, hb, hc⟩ := h.cells h0
   exact ⟨b, off, e, ⟨hb, cell_lt (hc 0 _ (List.getElem?_eq_getElem h0))⟩, hc⟩⟩
def tab5 (t : TE) (A : Option Addr) (c : Nat) : List Value := [.int .u64 (t.id : Int), .string t.name, .slice A t.cols.length c, .int .u64 (t.xmin : Int), .int .u64 (t.xmax : Int)]
theorem elem_tab5 : Elem Tryz.prog 105 83 5 64 := Elem.mk' (.agg #[.int .u64 0, .string ⟨#[]⟩, .slice none 0 0, .int .u64 0, .int .u64 0]) Tryz.underlying105 (by kernel_rfl) rfl (by decide)
theorem elem_pent : Elem Tryz.prog 204 206 1 8 := Elem.mk' (.pointer none) Tryz.underlying204 (by kernel_rfl) rfl (by decide)
theorem one_entP (p : Nat) : ∀ u ∈ [ptrV p], u.oneCell' = true := by
 intro u hu
 rw [List.mem_singleton] at hu
 rw [hu]
 rfl
theorem one_tab5 (t : TE) (A : Option Addr) (c : Nat) : ∀ u ∈ tab5 t A c, u.oneCell' = true := by
 intro u hu
 simp [tab5] at hu
 rcases hu with rfl | rfl | rfl | rfl | rfl <;> rfl
structure OneTab (w wr : World) (t : TE) (b : Nat) (A : Option Addr) (c : Nat) : Prop where
 quiet : Quiet w wr
 new : w.heap.size <= b /\ b < wr.heap.size
 cells : wr.cell? ⟨b, 0, none⟩ = some (.int .u64 (t.id : Int)) /\ wr.cell? ⟨b, 1, none⟩ = some (.string t.name) /\ wr.cell? ⟨b, 2, none⟩ = some (.slice A t.cols.length c) /\ wr.cell? ⟨b, 3, none⟩ = some (.int .u64 (t.xmin : Int)) /\ wr.cell? ⟨b, 4, none⟩ = some (.int .u64 (t.xmax : Int))
 cols : Rd wr (fun k => w.heap.size <= k /\ k < wr.heap.size) 2 A t.cols.length (colsV t.cols) /\ t.cols.length <= c /\ c <= maxLen
theorem OneTab.quietly {w wr w' : World} {t : TE} {b c : Nat} {A : Option Addr} (h : OneTab w wr t b A c) (hq : Quiet wr w') : OneTab w w' t b A c :=
 ⟨h.quiet.trans hq, ⟨h.new.1, Nat.lt_of_lt_of_le h.new.2 hq.size⟩, ⟨hq.cell h.cells.1 (fun x => x), hq.cell h.cells.2.1 (fun x => x), hq.cell h.cells.2.2.1 (fun x => x), hq.cell h.cells.2.2.2.1 (fun x => x), hq.cell h.cells.2.2.2.2 (fun x => x)⟩,
   (h.cols.1.kept hq (fun _ _ x => x)).mono (fun k x => ⟨x.1, Nat.lt_of_lt_of_le x.2 hq.size⟩), h.cols.2⟩
def TabsPost (w : World) (t : TE) (e : Ending) (w' : World) : Prop := ∃ b cap A c, e = .returned (.slice (some ⟨b, 0, none⟩) 1 cap) /\ OneTab w w' t b A c
theorem oneTab_done {w wr w2 w4 : World} {v : Value} {t : TE} {A : Option Addr} {c : Nat} (hq : Quiet w wr) (hf : FreshC wr w2 (.slice A t.cols.length c) t.cols) (hg : Grew (w2.alloc (.cells (tab5 t A c).toArray 83)) w4 83 5 (.slice none 0 0) v (0 + 1) ([] ++ tab5 t A c)) : ∃ b cap, v = .slice (some ⟨b, 0, none⟩) 1 cap /\ OneTab w w4 t b A c := by
 have hown := hg.own
 have hqa : Quiet w2 (w2.alloc (.cells (tab5 t A c).toArray 83)) := (Only.refl (fun _ => False) w2).alloc _
 have hon : Quiet (w2.alloc (.cells (tab5 t A c).toArray 83)) w4 := hg.only.mono (fun k _ e => by cases e)
 rcases owns_cases hown with ⟨_, e⟩ | ⟨b, cap, rfl, _, _⟩
 ·omega
 obtain ⟨cb, hcb⟩ := own_blk hown (k := b) rfl
 have hq2 := hf.quiet
 obtain ⟨A', c', e', hc1, hc2, hrd⟩ := own_form hf.own
 injection e' with e1 _ e2
 subst e1 e2
 have hbl : w.heap.size <= b := by
  rcases hg.loc with y | y
  ·cases y
  ·have e : (Value.slice (some ⟨b, 0, none⟩) (0 + 1) cap).ownBlock = some b := rfl
   rw [y] at e
   injection e with e
   have s1 := hq.size
   have s2 := hq2.size
   have s3 := hqa.size
   omega
 have c0 := hown.cells (by rfl) 0 (.int .u64 (t.id : Int)) rfl
 have c1 := hown.cells (by rfl) 1 (.string t.name) rfl
 have c2 := hown.cells (by rfl) 2 (.slice A t.cols.length c) rfl
 have c3 := hown.cells (by rfl) 3 (.int .u64 (t.xmin : Int)) rfl
 have c4 := hown.cells (by rfl) 4 (.int .u64 (t.xmax : Int)) rfl
 rw [add_none, Nat.zero_add] at c0 c1 c2 c3 c4
 refine ⟨b, cap, rfl, ((hq.trans hq2).trans hqa).trans hon, ⟨hbl, lt_of_get hcb⟩, ⟨c0, c1, c2, c3, c4⟩, ?_, hc1, hc2⟩
 refine (((rd_in hrd).kept hqa (fun _ _ x => x)).kept hon (fun _ _ x => x)).mono (fun k x => ⟨Nat.le_trans hq.size (hf.new k x.1), Nat.lt_of_lt_of_le x.2 (Nat.le_trans hqa.size hon.size)⟩)
set_option maxHeartbeats 2000000 in
theorem tables_one {w : World} {F : Nat -> Prop} {bb last : Nat} {t : TE} {I : List IE} (h : BookIs w F bb [t] I last) :
  Calls Tryz.prog 80 #[ptrV bb] w (TabsPost w t) := by
 obtain ⟨vT, tps, vI, ips, h, h2, h3⟩ := h
 obtain ⟨c0, _, _⟩ := h.cells
 obtain ⟨A, c, hv, hc, hm, hf⟩ := ptr_form h.rowT
 subst hv
 obtain ⟨tb, htp, hta⟩ := h.tbl 0 t rfl
 obtain ⟨g, rfl, hg⟩ := hf 0 tb htp
 have HG := Lib.hid hg
 have HTA := Lib.hid hta
 have lbb := lt_of_get h.box
 obtain ⟨POST, hPOST⟩ : ∃ POST, TabsPost w t = POST := ⟨_, rfl⟩
 rw [hPOST]
 have HPOST := Lib.hid hPOST
 unfold maxLen at hm
 rw [show ([t] : List TE).length = 1 from rfl] at c0 hc
 clear h h2 h3 hf hPOST htp hta hg
 go_enter Tryz.func80, Tryz.ntmps80
 go_wp2
 go_loopw [13, 3, 5] (fun i v _ wr => Quiet w wr /\ ((i = .int .i64 0 /\ v = .slice none 0 0) ∨ ∃ b cap A c, i = .int .i64 1 /\ v = .slice (some ⟨b, 0, none⟩) 1 cap /\ OneTab w wr t b A c)) (fun i _ _ _ => 1 - (intOf i).toNat)
 case atStart => exact ⟨Only.refl _ _, Or.inl ⟨rfl, rfl⟩⟩
 case round =>
  obtain ⟨hq, hrel⟩ := hrel
  have HQ := Lib.hid hq
  rcases hrel with ⟨rfl, rfl⟩ | ⟨b, cap, A2, c2, rfl, rfl, hO⟩
  ·have hg2 := hq.cell HG.out (fun x => x)
   have HTO := Lib.hid (table_told (HTA.out.kept hq (fun _ _ x => x)))
   have lg := cell_lt hg2
   dsimp only at lg
   clear hq
   go_wp2_with fail
   refine HTO.out.mono ?_
   rintro e w2 ⟨A2, c2, rfl, hf2⟩
   have HF2 := Lib.hid hf2
   have HRD := Lib.hid (Rd.new w2 5 1 (tab5 t A2 c2) 83 (fun _ => True) rfl trivial)
   have HOWN := Lib.hid (World.ownsRow_nil (w2.alloc (.cells (tab5 t A2 c2).toArray 83)) 0 83 5)
   clear hf2 HTO hg2
   unfold tabV
   go_wp2_with (at_builtin; refine app elem_tab5 rfl (.tmp 17) (.tmp 20) rfl rfl HOWN.out rfl HRD.out (one_tab5 t A2 c2) (by unfold maxLen; omega) (by omega) ?_)
   intro v4 w4 hg4
   obtain ⟨b4, cap4, rfl, hO4⟩ := oneTab_done HQ.out HF2.out hg4
   have HO4 := Lib.hid hO4
   clear hg4 hO4 HRD HOWN HF2
   go_wp2
   go_roundw
   case rel => exact ⟨HO4.out.quiet, Or.inr ⟨b4, cap4, A2, c2, rfl, rfl, HO4.out⟩⟩
   case measure => simp [intOf]
  ·have HEND : Hid (POST (.returned (.slice (some ⟨b, 0, none⟩) 1 cap)) wr) := by
    rw [<- HPOST.out]
    exact ⟨b, cap, A2, c2, rfl, hO⟩
   clear hO hq
   go_wp2
   exact HEND.out
def EntsPost (w : World) (tb : Nat) (e : Ending) (w' : World) : Prop := ∃ b cap, e = .returned (.slice (some ⟨b, 0, none⟩) 1 cap) /\ Quiet w w' /\ w.heap.size <= b /\ w'.cell? ⟨b, 0, none⟩ = some (ptrV tb)
theorem entsOne_done {w wr w4 : World} {v : Value} {tb : Nat} (hq : Quiet w wr) (hg : Grew (wr.alloc (.cells [ptrV tb].toArray 206)) w4 206 1 (.slice none 0 0) v (0 + 1) ([] ++ [ptrV tb])) : ∃ b cap, v = .slice (some ⟨b, 0, none⟩) 1 cap /\ Quiet w w4 /\ w.heap.size <= b /\ w4.cell? ⟨b, 0, none⟩ = some (ptrV tb) := by
 have hown := hg.own
 have hqa : Quiet wr (wr.alloc (.cells [ptrV tb].toArray 206)) := (Only.refl (fun _ => False) wr).alloc _
 have hon : Quiet (wr.alloc (.cells [ptrV tb].toArray 206)) w4 := hg.only.mono (fun k _ e => by cases e)
 rcases owns_cases hown with ⟨_, e⟩ | ⟨b, cap, rfl, _, _⟩
 ·omega
 have hbl : w.heap.size <= b := by
  rcases hg.loc with y | y
  ·cases y
  ·have e : (Value.slice (some ⟨b, 0, none⟩) (0 + 1) cap).ownBlock = some b := rfl
   rw [y] at e
   injection e with e
   have s1 := hq.size
   have s3 := hqa.size
   omega
 have c0 := hown.cells (by rfl) 0 (ptrV tb) rfl
 rw [add_none, Nat.zero_add] at c0
 exact ⟨b, cap, rfl, (hq.trans hqa).trans hon, hbl, c0⟩
set_option maxHeartbeats 2000000 in
theorem entries_one {w : World} {F : Nat -> Prop} {bb last tb : Nat} {t : TE} {vT vI : Value} (h : BookRow w F bb [t] vT [tb] vI [] last) :
  Calls Tryz.prog 96 #[ptrV bb] w (EntsPost w tb) := by
 obtain ⟨c0, c1, _⟩ := h.cells
 obtain ⟨A, c, hv, hc, hm, hf⟩ := ptr_form h.rowT
 obtain ⟨A', c', hv', hc', hm', _⟩ := ptr_form h.rowI
 subst hv hv'
 obtain ⟨tb', htp, hta⟩ := h.tbl 0 t rfl
 obtain rfl : tb = tb' := by simpa using htp
 obtain ⟨g, rfl, hg⟩ := hf 0 tb rfl
 have HG := Lib.hid hg
 have HTA : Hid (tb < w.heap.size) := by obtain ⟨_, _, hb, _⟩ := hta.ex; exact lt_of_get hb
 have HB := Lib.hid h.box
 have lbb := lt_of_get h.box
 obtain ⟨POST, hPOST⟩ : ∃ POST, EntsPost w tb = POST := ⟨_, rfl⟩
 rw [hPOST]
 have HPOST := Lib.hid hPOST
 unfold maxLen at hm hm'
 rw [show ([t] : List TE).length = 1 from rfl] at c0 hc HB
 rw [show ([] : List Nat).length = 0 from rfl] at c1 HB
 clear h hf hPOST htp hta hg hc'
 go_enter Tryz.func96, Tryz.ntmps96
 go_wp2
 go_loopw [13, 3, 5] (fun i v _ wr => Quiet w wr /\ ((i = .int .i64 0 /\ v = .slice none 0 0) ∨ ∃ b cap, i = .int .i64 1 /\ v = .slice (some ⟨b, 0, none⟩) 1 cap /\ w.heap.size <= b /\ wr.cell? ⟨b, 0, none⟩ = some (ptrV tb))) (fun i _ _ _ => 1 - (intOf i).toNat)
 case atStart => exact ⟨Only.refl _ _, Or.inl ⟨rfl, rfl⟩⟩
 case round =>
  obtain ⟨hq, hrel⟩ := hrel
  have HQ := Lib.hid hq
  rcases hrel with ⟨rfl, rfl⟩ | ⟨b, cap, rfl, rfl, hb, hcell⟩
  ·have hg2 := hq.cell HG.out (fun x => x)
   have lg := cell_lt hg2
   dsimp only at lg
   have HRD := Lib.hid (Rd.new wr 1 1 [ptrV tb] 206 (fun _ => True) rfl trivial)
   have HOWN := Lib.hid (World.ownsRow_nil (wr.alloc (.cells [ptrV tb].toArray 206)) 0 206 1)
   clear hq
   go_wp2_with (at_builtin; refine app elem_pent rfl (.tmp 17) (.tmp 21) rfl rfl HOWN.out rfl HRD.out (one_entP tb) (by unfold maxLen; omega) (by omega) ?_)
   intro v4 w4 hg4
   obtain ⟨b4, cap4, rfl, q4, l4, c4⟩ := entsOne_done HQ.out hg4
   have HO4 := Lib.hid (And.intro q4 (And.intro l4 c4))
   clear hg4 q4 l4 c4 HRD HOWN hg2
   go_wp2
   go_roundw
   case rel => exact ⟨HO4.out.1, Or.inr ⟨b4, cap4, rfl, rfl, HO4.out.2.1, HO4.out.2.2⟩⟩
   case measure => simp [intOf]
  ·have HO := Lib.hid (And.intro hb hcell)
   have hbx := hq.get HB.out (fun x => x)
   have d1 : wr.cell? ⟨bb, 1, none⟩ = some (.slice A' 0 c') := by rw [cell_of hbx]; rfl
   have lbb2 := cell_lt d1
   dsimp only at lbb2
   clear hq hb hcell hbx c0 c1 lbb
   go_wp2
   go_loopw [29, 3, 7] (fun i v _ wr2 => wr2 = wr /\ i = .int .i64 0 /\ v = .slice (some ⟨b, 0, none⟩) 1 cap) (fun _ _ _ _ => 0)
   case atStart => exact ⟨rfl, rfl, rfl⟩
   case round =>
    obtain ⟨rfl, rfl, rfl⟩ := hrel
    have HEND : Hid (POST (.returned (.slice (some ⟨b, 0, none⟩) 1 cap)) wr) := by
     rw [<- HPOST.out]
     exact ⟨b, cap, rfl, HQ.out, HO.out.1, HO.out.2⟩
    go_wp2
    exact HEND.out
set_option maxHeartbeats 2000000 in
theorem taken_one {w : World} {F : Nat -> Prop} {bb lb last c tb : Nat} {A : Option Addr} {s : Snap} {t : TE} {name : ByteArray} {vT vI : Value} (h : BookRow w F bb [t] vT [tb] vI [] last) (hne : (t.name.toList == name.toList) = false) :
  Calls Tryz.prog 54 #[.pointer (some ⟨bb, 0, none⟩), .pointer (some ⟨lb, 0, none⟩), snapV s A c, .string name] w fun e w' => e = .returned (.int .i64 0) /\ Quiet w w' := by
 have HQ0 : Hid (Quiet w (w.alloc (.cells (snapCells s A c) 73))) := (Only.refl _ _).alloc _
 have HE := Lib.hid (entries_one (h.kept HQ0.out (fun _ _ x => x)))
 obtain ⟨tb', htp, hta⟩ := h.tbl 0 t rfl
 obtain rfl : tb = tb' := by simpa using htp
 have HTA := Lib.hid hta
 obtain ⟨POST, hPOST⟩ : ∃ POST : Ending -> World -> Prop, (fun e w' => e = .returned (.int .i64 0) /\ Quiet w w') = POST := ⟨_, rfl⟩
 rw [hPOST]
 have HPOST := Lib.hid hPOST
 unfold snapV
 clear h hPOST htp hta
 go_enter Tryz.func54, Tryz.ntmps54
 go_wp2_with fail
 refine HE.out.mono ?_
 rintro e w1 ⟨b, cap, rfl, hq1, hb1, hc1⟩
 have HQ1 := Lib.hid (HQ0.out.trans hq1)
 have HC1 := Lib.hid hc1
 clear HE hq1 hb1 hc1
 go_wp2
 go_loopw [15, 9, 11, 17, 18, 19, 20, 21, 22, 23, 24, 25] (fun i cd _ _ _ _ _ _ _ _ _ _ wr => Quiet w1 wr /\ cd = .int .i64 0 /\ (i = .int .i64 0 ∨ i = .int .i64 1)) (fun i _ _ _ _ _ _ _ _ _ _ _ _ => 1 - (intOf i).toNat)
 case atStart => exact ⟨Only.refl _ _, rfl, Or.inl rfl⟩
 case round =>
  obtain ⟨hq, rfl, hrel⟩ := hrel
  have HQ := Lib.hid hq
  rcases hrel with rfl | rfl
  ·have k0 := hq.cell HC1.out (fun x => x)
   have lg := cell_lt k0
   dsimp only at lg
   have k1 := (HTA.out.kept (HQ1.out.trans hq) (fun _ _ x => x)).ent.c1
   clear hq
   go_wp2
   go_roundw
   case rel => exact ⟨HQ.out, rfl, Or.inr rfl⟩
   case measure => simp [intOf]
  ·have HEND : Hid (POST (.returned (.int .i64 0)) wr) := by
    rw [<- HPOST.out]
    exact ⟨rfl, HQ1.out.trans HQ.out⟩
   clear hq
   go_wp2
   exact HEND.out
set_option maxHeartbeats 400000 in
theorem contains_nil (w : World) (z : Int) : Calls Tryz.prog 147 #[.slice none 0 0, .int .u64 z] w (BoolQ w false) := by
 have HI : Hid (Calls Tryz.prog 175 #[.slice none 0 0, .int .u64 z] w (fun e w' => e = .returned (.int .i64 (-1)) /\ w = w')) := by
  go_enter Tryz.func175, Tryz.ntmps175
  go_wp2
  refine wp_loop_rounds 1 ?_
  rw [rounds_succ]
  go_wp2
  go_ret
  exact ⟨rfl, rfl⟩
 go_enter Tryz.func147, Tryz.ntmps147
 go_wp2_with fail
 refine HI.out.mono ?_
 rintro e w1 ⟨rfl, rfl⟩
 go_wp2
 go_ret
 exact ⟨rfl, Only.refl _ _⟩
set_option maxHeartbeats 2000000 in
theorem prune1_keep {w : World} {F : Nat -> Prop} {lb lc hc oc tb id xmin xmax hz : Nat} {name : ByteArray} {L : List Nat} (ht : EntAt w tb id name xmin xmax) (hl : LogAt w F lb L) (h1 : U64 xmin) (h2 : U64 xmax) (c1 : w.cell? ⟨lc, 0, none⟩ = some (ptrV lb)) (c2 : w.cell? ⟨hc, 0, none⟩ = some (.int .u64 (hz : Int))) (hd : deadS L xmin xmax hz = false) :
  Calls Tryz.prog 182 #[ptrV tb, ptrV lc, ptrV hc, ptrV oc] w (BoolQ w false) := by
 have HD : Hid (∀ W, Quiet w W -> Calls Tryz.prog 183 #[.pointer (some ⟨tb, 0, none⟩), .pointer (some ⟨lb, 0, none⟩), .int .u64 (hz : Int)] W (BoolQ W false)) := fun W hq => by
  rw [<- hd]
  exact entry_dead (ht.kept hq (fun x => x)) (hl.kept hq (fun _ _ x => x)) h1 h2
 have HS : Hid (∀ W, Quiet w W -> (fun w' => w'.cell? ⟨lc, 0, none⟩ = some (ptrV lb) /\ w'.cell? ⟨hc, 0, none⟩ = some (.int .u64 (hz : Int))) W) := fun W hq => ⟨hq.cell c1 (fun x => x), hq.cell c2 (fun x => x)⟩
 obtain ⟨POST, hPOST⟩ : ∃ POST, BoolQ w false = POST := ⟨_, rfl⟩
 rw [hPOST]
 have HPOST := Lib.hid hPOST
 clear hPOST ht hl h1 h2 hd
 go_enter Tryz.func182, Tryz.ntmps182
 go_wp2_with fail
 refine zH HS ((Only.refl _ _).drew) (fun hHeld => ?_)
 simp only [List.size_toArray, List.length_cons, List.length_nil, Nat.reduceAdd]
 have q0 : Quiet w w.drew := (Only.refl _ _).drew
 generalize w.drew = d0 at q0 hHeld ⊢
 refine zT 0 ?_
 refine zT 1 ?_
 refine zT 2 ?_
 refine zT 3 ?_
 refine zT 4 ?_
 refine zR 5 ?_
 intro K hK
 go_simp
 go_at_call 183
 refine (HD.out _ q0).mono ?_
 rintro e d1 ⟨rfl, hq1⟩
 have q1 := q0.trans hq1
 clear hq1
 dsimp only
 refine hK.out _ _ ?_ (fun hHeld => ?_)
 ·exact HS.out _ q1
 clear hK K
 (try simp only [Act.put, zPA, zPZ, zPS])
 refine wpAnyH_done (by kernel_rfl) ?_ _
 clear hHeld
 go_wp2_with fail
 refine zH HS q1.drew (fun hHeld => ?_)
 simp only [List.size_toArray, List.length_cons, List.length_nil, Nat.reduceAdd]
 have q2 : Quiet w d1.drew := q1.drew
 generalize d1.drew = d2 at q2 hHeld ⊢
 refine zT 0 ?_
 refine zT 1 ?_
 refine zT 2 ?_
 refine zT 3 ?_
 refine zT 4 ?_
 refine zR 5 ?_
 intro K hK
 go_simp
 go_at_call 183
 refine (HD.out _ q2).mono ?_
 rintro e d3 ⟨rfl, hq3⟩
 have q3 := q2.trans hq3
 clear hq3
 dsimp only
 refine hK.out _ _ ?_ (fun hHeld => ?_)
 ·exact HS.out _ q3
 clear hK K
 (try simp only [Act.put, zPA, zPZ, zPS])
 refine zT 6 ?_
 refine wpAnyH_done (by kernel_rfl) ?_ _
 have HEND : Hid (POST (.returned (.bool false)) d3) := by
  rw [<- HPOST.out]
  exact ⟨rfl, q3⟩
 clear hHeld q0 q1 q2 q3 HD HS
 go_wp2
 exact HEND.out
set_option maxHeartbeats 2000000 in
theorem prune2_keep {w : World} {F : Nat -> Prop} {lb lc hc oc oc2 xb id xmin xmax tid hz : Nat} {name : ByteArray} {L : List Nat} (ht : EntAt w xb id name xmin xmax) (ct : w.cell? ⟨xb, 4, none⟩ = some (.int .u64 (tid : Int))) (hl : LogAt w F lb L) (h1 : U64 xmin) (h2 : U64 xmax) (c1 : w.cell? ⟨lc, 0, none⟩ = some (ptrV lb)) (c2 : w.cell? ⟨hc, 0, none⟩ = some (.int .u64 (hz : Int))) (c3 : w.cell? ⟨oc, 0, none⟩ = some (.slice none 0 0)) (hd : deadS L xmin xmax hz = false) :
  Calls Tryz.prog 185 #[ptrV xb, ptrV lc, ptrV hc, ptrV oc, ptrV oc2] w (BoolQ w false) := by
 have HD : Hid (∀ W, Quiet w W -> Calls Tryz.prog 183 #[.pointer (some ⟨xb, 0, none⟩), .pointer (some ⟨lb, 0, none⟩), .int .u64 (hz : Int)] W (BoolQ W false)) := fun W hq => by
  rw [<- hd]
  exact entry_dead (ht.kept hq (fun x => x)) (hl.kept hq (fun _ _ x => x)) h1 h2
 have HS : Hid (∀ W, Quiet w W -> (fun w' => w'.cell? ⟨lc, 0, none⟩ = some (ptrV lb) /\ w'.cell? ⟨hc, 0, none⟩ = some (.int .u64 (hz : Int)) /\ w'.cell? ⟨oc, 0, none⟩ = some (.slice none 0 0) /\ w'.cell? ⟨xb, 4, none⟩ = some (.int .u64 (tid : Int))) W) := fun W hq => ⟨hq.cell c1 (fun x => x), hq.cell c2 (fun x => x), hq.cell c3 (fun x => x), hq.cell ct (fun x => x)⟩
 obtain ⟨POST, hPOST⟩ : ∃ POST, BoolQ w false = POST := ⟨_, rfl⟩
 rw [hPOST]
 have HPOST := Lib.hid hPOST
 clear hPOST ht hl h1 h2 hd
 go_enter Tryz.func185, Tryz.ntmps185
 go_wp2_with fail
 refine zH HS ((Only.refl _ _).drew) (fun hHeld => ?_)
 simp only [List.size_toArray, List.length_cons, List.length_nil, Nat.reduceAdd]
 have q0 : Quiet w w.drew := (Only.refl _ _).drew
 generalize w.drew = d0 at q0 hHeld ⊢
 refine zT 0 ?_
 refine zT 1 ?_
 refine zT 2 ?_
 refine zT 3 ?_
 refine zT 4 ?_
 refine zR 5 ?_
 intro K hK
 go_simp
 go_at_call 183
 refine (HD.out _ q0).mono ?_
 rintro e d1 ⟨rfl, hq1⟩
 have q1 := q0.trans hq1
 clear hq1
 dsimp only
 refine hK.out _ _ ?_ (fun hHeld => ?_)
 ·exact HS.out _ q1
 clear hK K
 (try simp only [Act.put, zPA, zPZ, zPS])
 refine zT 6 ?_
 refine zT 7 ?_
 refine zT 8 ?_
 refine zT 9 ?_
 refine zT 10 ?_
 refine zT 11 ?_
 refine zR 12 ?_
 intro K hK
 go_simp
 go_at_call 147
 refine (contains_nil _ _).mono ?_
 rintro e d2 ⟨rfl, hq2⟩
 have q2 := q1.trans hq2
 clear hq2
 dsimp only
 refine hK.out _ _ ?_ (fun hHeld => ?_)
 ·exact HS.out _ q2
 clear hK K
 (try simp only [Act.put, zPA, zPZ, zPS])
 refine zT 13 ?_
 refine zT 14 ?_
 refine wpAnyH_done (by kernel_rfl) ?_ _
 have HEND : Hid (POST (.returned (.bool false)) d2) := by
  rw [<- HPOST.out]
  exact ⟨rfl, q2⟩
 clear hHeld q0 q1 q2 HD HS
 go_wp2
 exact HEND.out
set_option maxHeartbeats 800000 in
theorem indexT_none {w : World} {A : Option Addr} {c n lc hc oc : Nat} {ps : List Nat} (hps : ∀ i p, ps[i]? = some p -> ∃ g, A = some ⟨g, 0, none⟩ /\ w.cell? ⟨g, i, none⟩ = some (ptrV p)) (hn : ps.length = n) (hcl : n <= c) (hm : c <= maxLen)
  (hf : ∀ W p, Quiet w W -> p ∈ ps -> Calls Tryz.prog 182 #[ptrV p, ptrV lc, ptrV hc, ptrV oc] W (BoolQ W false)) :
  Calls Tryz.prog 193 #[.slice A n c, .func (.func 182) #[] #[ptrV lc, ptrV hc, ptrV oc]] w (fun e w' => e = .returned (.int .i64 (-1)) /\ Quiet w w') := by
 obtain ⟨POST, hPOST⟩ : ∃ POST : Ending -> World -> Prop, (fun e w' => e = .returned (.int .i64 (-1)) /\ Quiet w w') = POST := ⟨_, rfl⟩
 rw [hPOST]
 have HPOST := Lib.hid hPOST
 have HPS := Lib.hid hps
 have HF := Lib.hid hf
 have HN := Lib.hid hn
 unfold maxLen at hm
 clear hPOST hps hf hn
 go_enter Tryz.func193, Tryz.ntmps193
 go_wp2
 go_loopw [8, 5] (fun i _ wr => ∃ k : Nat, k <= n /\ i = .int .i64 (k : Int) /\ Quiet w wr) (fun i _ _ => n - (intOf i).toNat)
 case atStart => exact ⟨0, Nat.zero_le _, rfl, Only.refl _ _⟩
 case round =>
  obtain ⟨k, hk, rfl, hq⟩ := hrel
  have HQ := Lib.hid hq
  clear hq
  by_cases hlt : k < n
  ·obtain ⟨p, hp⟩ : ∃ p, ps[k]? = some p := ⟨_, List.getElem?_eq_getElem (by have := HN.out; omega)⟩
   obtain ⟨g, rfl, hg⟩ := HPS.out k p hp
   have hg2 := HQ.out.cell hg (fun x => x)
   have hlg := cell_lt hg2
   dsimp only at hlg
   have HC := Lib.hid (HF.out wr p HQ.out (List.mem_of_getElem? hp))
   clear hp hg
   go_wp2_with fail
   refine HC.out.mono ?_
   rintro e w2 ⟨rfl, hq2⟩
   have HQ2 := Lib.hid (HQ.out.trans hq2)
   clear hq2 hg2 HC
   go_wp2
   go_roundw
   case rel => exact ⟨k + 1, by omega, by go_num, HQ2.out⟩
   case measure => simp [intOf]; omega
  ·obtain rfl : k = n := by omega
   have HEND : Hid (POST (.returned (.int .i64 (-1))) wr) := by
    rw [<- HPOST.out]
    exact ⟨rfl, HQ.out⟩
   go_wp2
   exact HEND.out
set_option maxHeartbeats 800000 in
theorem deleteT_none {w : World} {A : Option Addr} {c n lc hc oc : Nat} {ps : List Nat} (hps : ∀ i p, ps[i]? = some p -> ∃ g, A = some ⟨g, 0, none⟩ /\ w.cell? ⟨g, i, none⟩ = some (ptrV p)) (hn : ps.length = n) (hcl : n <= c) (hm : c <= maxLen)
  (hf : ∀ W p, Quiet w W -> p ∈ ps -> Calls Tryz.prog 182 #[ptrV p, ptrV lc, ptrV hc, ptrV oc] W (BoolQ W false)) :
  Calls Tryz.prog 181 #[.slice A n c, .func (.func 182) #[] #[ptrV lc, ptrV hc, ptrV oc]] w (fun e w' => e = .returned (.slice A n c) /\ Quiet w w') := by
 have HI := Lib.hid (indexT_none hps hn hcl hm hf)
 obtain ⟨POST, hPOST⟩ : ∃ POST : Ending -> World -> Prop, (fun e w' => e = .returned (.slice A n c) /\ Quiet w w') = POST := ⟨_, rfl⟩
 rw [hPOST]
 have HPOST := Lib.hid hPOST
 clear hPOST hps hf hn
 go_enter Tryz.func181, Tryz.ntmps181
 go_wp2_with fail
 refine HI.out.mono ?_
 rintro e w1 ⟨rfl, hq1⟩
 have HEND : Hid (POST (.returned (.slice A n c)) w1) := by
  rw [<- HPOST.out]
  exact ⟨rfl, hq1⟩
 clear hq1 HI
 go_wp2
 exact HEND.out
set_option maxHeartbeats 800000 in
theorem indexX_none {w : World} {A : Option Addr} {c n lc hc oc oc2 : Nat} {ps : List Nat} (hps : ∀ i p, ps[i]? = some p -> ∃ g, A = some ⟨g, 0, none⟩ /\ w.cell? ⟨g, i, none⟩ = some (ptrV p)) (hn : ps.length = n) (hcl : n <= c) (hm : c <= maxLen)
  (hf : ∀ W p, Quiet w W -> p ∈ ps -> Calls Tryz.prog 185 #[ptrV p, ptrV lc, ptrV hc, ptrV oc, ptrV oc2] W (BoolQ W false)) :
  Calls Tryz.prog 194 #[.slice A n c, .func (.func 185) #[] #[ptrV lc, ptrV hc, ptrV oc, ptrV oc2]] w (fun e w' => e = .returned (.int .i64 (-1)) /\ Quiet w w') := by
 obtain ⟨POST, hPOST⟩ : ∃ POST : Ending -> World -> Prop, (fun e w' => e = .returned (.int .i64 (-1)) /\ Quiet w w') = POST := ⟨_, rfl⟩
 rw [hPOST]
 have HPOST := Lib.hid hPOST
 have HPS := Lib.hid hps
 have HF := Lib.hid hf
 have HN := Lib.hid hn
 unfold maxLen at hm
 clear hPOST hps hf hn
 go_enter Tryz.func194, Tryz.ntmps194
 go_wp2
 go_loopw [8, 5] (fun i _ wr => ∃ k : Nat, k <= n /\ i = .int .i64 (k : Int) /\ Quiet w wr) (fun i _ _ => n - (intOf i).toNat)
 case atStart => exact ⟨0, Nat.zero_le _, rfl, Only.refl _ _⟩
 case round =>
  obtain ⟨k, hk, rfl, hq⟩ := hrel
  have HQ := Lib.hid hq
  clear hq
  by_cases hlt : k < n
  ·obtain ⟨p, hp⟩ : ∃ p, ps[k]? = some p := ⟨_, List.getElem?_eq_getElem (by have := HN.out; omega)⟩
   obtain ⟨g, rfl, hg⟩ := HPS.out k p hp
   have hg2 := HQ.out.cell hg (fun x => x)
   have hlg := cell_lt hg2
   dsimp only at hlg
   have HC := Lib.hid (HF.out wr p HQ.out (List.mem_of_getElem? hp))
   clear hp hg
   go_wp2_with fail
   refine HC.out.mono ?_
   rintro e w2 ⟨rfl, hq2⟩
   have HQ2 := Lib.hid (HQ.out.trans hq2)
   clear hq2 hg2 HC
   go_wp2
   go_roundw
   case rel => exact ⟨k + 1, by omega, by go_num, HQ2.out⟩
   case measure => simp [intOf]; omega
  ·obtain rfl : k = n := by omega
   have HEND : Hid (POST (.returned (.int .i64 (-1))) wr) := by
    rw [<- HPOST.out]
    exact ⟨rfl, HQ.out⟩
   go_wp2
   exact HEND.out
set_option maxHeartbeats 800000 in
theorem deleteX_none {w : World} {A : Option Addr} {c n lc hc oc oc2 : Nat} {ps : List Nat} (hps : ∀ i p, ps[i]? = some p -> ∃ g, A = some ⟨g, 0, none⟩ /\ w.cell? ⟨g, i, none⟩ = some (ptrV p)) (hn : ps.length = n) (hcl : n <= c) (hm : c <= maxLen)
  (hf : ∀ W p, Quiet w W -> p ∈ ps -> Calls Tryz.prog 185 #[ptrV p, ptrV lc, ptrV hc, ptrV oc, ptrV oc2] W (BoolQ W false)) :
  Calls Tryz.prog 184 #[.slice A n c, .func (.func 185) #[] #[ptrV lc, ptrV hc, ptrV oc, ptrV oc2]] w (fun e w' => e = .returned (.slice A n c) /\ Quiet w w') := by
 have HI := Lib.hid (indexX_none hps hn hcl hm hf)
 obtain ⟨POST, hPOST⟩ : ∃ POST : Ending -> World -> Prop, (fun e w' => e = .returned (.slice A n c) /\ Quiet w w') = POST := ⟨_, rfl⟩
 rw [hPOST]
 have HPOST := Lib.hid hPOST
 clear hPOST hps hf hn
 go_enter Tryz.func184, Tryz.ntmps184
 go_wp2_with fail
 refine HI.out.mono ?_
 rintro e w1 ⟨rfl, hq1⟩
 have HEND : Hid (POST (.returned (.slice A n c)) w1) := by
  rw [<- HPOST.out]
  exact ⟨rfl, hq1⟩
 clear hq1 HI
 go_wp2
 exact HEND.out
theorem BookRow.onBox {w w' : World} {F : Nat -> Prop} {bb last last' : Nat} {T : List TE} {vT vI : Value} {tps ips : List Nat} (h : BookRow w F bb T vT tps vI ips last) (ho : Only (· = bb) w w') (hb : w'.heap[bb]? = some (.cells #[vT, vI, .int .u64 (last' : Int)] 132 (0, 0))) (hl : U64 last') : BookRow w' F bb T vT tps vI ips last' := by
 have ht : ∀ k, vT.ownBlock = some k -> k ≠ bb := fun k e => by
  obtain ⟨c, hh⟩ := own_blk h.rowT e
  exact (ne_type h.box hh (by decide)).symm
 have hi : ∀ k, vI.ownBlock = some k -> k ≠ bb := fun k e => by
  obtain ⟨c, hh⟩ := own_blk h.rowI e
  exact (ne_type h.box hh (by decide)).symm
 refine ⟨hb, owns_kept h.rowT ho (fun k e x => ht k e x), owns_kept h.rowI ho (fun k e x => hi k e x), fun i e hie => ?_, h.foot, hl⟩
 obtain ⟨p, h1, h2⟩ := h.tbl i e hie
 obtain ⟨A', c', t1, t2⟩ := h2.typ
 obtain ⟨A, c, hbt, hr, hc⟩ := h2.ex
 have e0 := hbt.symm.trans t1
 injection e0 with e0
 injection e0 with e0 _ _
 injection e0 with e0
 injection e0 with _ e0
 injection e0 with _ e0
 injection e0 with _ e0
 injection e0 with _ e0
 injection e0 with e0 _
 injection e0 with eA _ eC
 subst eA eC
 have g1 : p ≠ bb := ne_type hbt h.box (by decide)
 refine ⟨p, h1, ⟨A, c, ho.get hbt g1, ⟨hr.len, fun h0 => ?_⟩, hc⟩, h2.own, h2.pos, h2.num, A, c, ho.get hbt g1, fun g e => ⟨(t2 g e).1, by obtain ⟨cur, hh⟩ := (t2 g e).2; exact ⟨cur, ho.get hh (ne_type hh h.box (by decide))⟩⟩⟩
 obtain ⟨b, off, e1, hb1, hcell⟩ := hr.cells h0
 subst e1
 obtain ⟨cur, hh⟩ := (t2 b rfl).2
 exact ⟨b, off, rfl, hb1, fun j u hu => ho.cell (hcell j u hu) (ne_type hh h.box (by decide))⟩
theorem four_alloc (w : World) (o1 o2 o3 o4 : Obj) : Quiet w ((((w.alloc o1).alloc o2).alloc o3).alloc o4) /\ ((((w.alloc o1).alloc o2).alloc o3).alloc o4).heap[w.heap.size]? = some o1 /\ ((((w.alloc o1).alloc o2).alloc o3).alloc o4).heap[w.heap.size + 1]? = some o2 /\ ((((w.alloc o1).alloc o2).alloc o3).alloc o4).heap[w.heap.size + 1 + 1]? = some o3 /\ ((((w.alloc o1).alloc o2).alloc o3).alloc o4).heap[w.heap.size + 1 + 1 + 1]? = some o4 := by
 have h2 := alloc_new (w.alloc o1) o2
 have h3 := alloc_new ((w.alloc o1).alloc o2) o3
 have h4 := alloc_new (((w.alloc o1).alloc o2).alloc o3) o4
 simp only [World.size_alloc] at h2 h3 h4
 exact ⟨((((Only.refl _ _).alloc _).alloc _).alloc _).alloc _, alloc_old (alloc_old (alloc_old (alloc_new w o1) o2) o3) o4, alloc_old (alloc_old h2 o3) o4, alloc_old h3 o4, h4⟩
set_option maxHeartbeats 4000000 in
theorem book_prune_keep {w : World} {F Fl : Nat -> Prop} {bb lb last hz : Nat} {T : List TE} {I : List IE} {L : List Nat} (h : BookIs w F bb T I last) (hl : LogAt w Fl lb L) (hT : ∀ t ∈ T, deadS L t.xmin t.xmax hz = false) (hI : ∀ x ∈ I, deadS L x.xmin x.xmax hz = false) (hFl : ¬ Fl bb) :
  Calls Tryz.prog 159 #[ptrV bb, ptrV lb, .int .u64 (hz : Int)] w (fun e w' => e = .returned (.tuple #[.slice none 0 0, .slice none 0 0]) /\ Only (fun k => k = bb) w w' /\ BookIs w' F bb T I last) := by
 obtain ⟨vT, tps, vI, ips, h, h2, h3⟩ := h
 obtain ⟨hq0, a4, a5, a8, a9⟩ := four_alloc w (.cells #[ptrV lb] 58) (.cells #[.int .u64 (hz : Int)] 29) (.cells #[.slice none 0 0] 71) (.cells #[.slice none 0 0] 71)
 obtain ⟨r4, hr4⟩ : ∃ r4, w.heap.size = r4 := ⟨_, rfl⟩
 obtain ⟨r5, hr5⟩ : ∃ r5, r4 + 1 = r5 := ⟨_, rfl⟩
 obtain ⟨r8, hr8⟩ : ∃ r8, r5 + 1 = r8 := ⟨_, rfl⟩
 obtain ⟨r9, hr9⟩ : ∃ r9, r8 + 1 = r9 := ⟨_, rfl⟩
 rw [hr4] at a4 a5 a8 a9
 rw [hr5] at a5 a8 a9
 rw [hr8] at a8 a9
 rw [hr9] at a9
 have HR := Lib.hid (And.intro hr4 (And.intro hr5 (And.intro hr8 hr9)))
 obtain ⟨AT, cT, hvT, hcT, hmT, hfT⟩ := ptr_form h.rowT
 obtain ⟨AI, cI, hvI, hcI, hmI, hfI⟩ := ptr_form h.rowI
 subst hvT hvI
 have HH := Lib.hid h
 have HL := Lib.hid hl
 have HT := Lib.hid hT
 have HI := Lib.hid hI
 have HX := Lib.hid (And.intro h2 h3)
 have HC := Lib.hid (And.intro hcT (And.intro hmT (And.intro hcI hmI)))
 have HFT := Lib.hid hfT
 have HFL := Lib.hid hFl
 have HFI := Lib.hid hfI
 have lbb := lt_of_get h.box
 obtain ⟨POST, hPOST⟩ : ∃ POST : Ending -> World -> Prop, (fun e w' => e = .returned (.tuple #[.slice none 0 0, .slice none 0 0]) /\ Only (fun k => k = bb) w w' /\ BookIs w' F bb T I last) = POST := ⟨_, rfl⟩
 rw [hPOST]
 have HPOST := Lib.hid hPOST
 obtain ⟨nT, hnT⟩ : ∃ nT, T.length = nT := ⟨_, rfl⟩
 obtain ⟨nI, hnI⟩ : ∃ nI, ips.length = nI := ⟨_, rfl⟩
 have htl := h.tlen
 have HNN := Lib.hid (And.intro hnT (And.intro hnI htl))
 have hb0 := (hq0.get h.box (fun x => x))
 rw [hnT, hnI] at hb0
 have k0 := cell_of hb0 0
 have kf := fun o => frozen_of hb0 o
 simp only [zGA, zGS, zGZ] at k0
 have HB0 := Lib.hid hb0
 have HQ0 := Lib.hid hq0
 have HA := Lib.hid (And.intro a4 (And.intro a5 (And.intro a8 a9)))
 clear h hl hT hI h2 h3 hFl hcT hmT hcI hmI hfT hfI hPOST htl
 go_enter Tryz.func159, Tryz.ntmps159
 go_upto_region 4 with fail
 (try simp only [World.size_alloc] at *)
 (try rw [hr4]); (try rw [hr5]); (try rw [hr8]); (try rw [hr9])
 generalize (((w.alloc (.cells #[ptrV lb] 58)).alloc (.cells #[.int .u64 (hz : Int)] 29)).alloc (.cells #[.slice none 0 0] 71)).alloc (.cells #[.slice none 0 0] 71) = w0 at *
 have HDT : Hid (Calls Tryz.prog 181 #[.slice AT nT cT, .func (.func 182) #[] #[ptrV r4, ptrV r5, ptrV r8]] w0 (fun e w' => e = .returned (.slice AT nT cT) /\ Quiet w0 w')) := by
  refine deleteT_none (ps := tps) (fun i p hp => ?_) (HNN.out.2.2.trans HNN.out.1) (by rw [<- HNN.out.1]; exact HC.out.1) HC.out.2.1 (fun W p hq hp => ?_)
  ·obtain ⟨g, e1, e2⟩ := HFT.out i p hp
   exact ⟨g, e1, HQ0.out.cell e2 (fun x => x)⟩
  ·obtain ⟨i, hi⟩ := List.mem_iff_getElem?.1 hp
   obtain ⟨t, ht⟩ : ∃ t, T[i]? = some t := ⟨_, List.getElem?_eq_getElem (by have := (List.getElem?_eq_some_iff.1 hi).1; have := HNN.out; omega)⟩
   obtain ⟨p', e1, e2⟩ := HH.out.tbl i t ht
   rw [hi] at e1
   injection e1 with e1
   subst e1
   have hq2 := HQ0.out.trans hq
   have b4 := hq.get HA.out.1 (fun x => x)
   have b5 := hq.get HA.out.2.1 (fun x => x)
   exact prune1_keep (e2.kept hq2 (fun _ _ x => x)).ent (HL.out.kept hq2 (fun _ _ x => x)) e2.num.2.1 e2.num.2.2 (by rw [cell_of b4]; rfl) (by rw [cell_of b5]; rfl) (HT.out t (List.mem_of_getElem? ht))
 clear hq0 a4 a5 a8 a9 hr4 hr5 hr8 hr9 hb0
 go_wp2_with fail
 refine HDT.out.mono ?_
 rintro e w1 ⟨rfl, hq1⟩
 have b1 := hq1.get HB0.out (fun x => x)
 have k1 := cell_of b1 0
 have kf1 := fun o => frozen_of b1 o
 have lb1 := lt_of_get b1
 simp only [zGA, zGS, zGZ] at k1
 have ho2 : Only (fun k => k = bb) w1 (w1.setCell ⟨bb, 0, none⟩ (.slice AT nT cT)) := (Only.refl (fun k => k = bb) w1).setCell (p := ⟨bb, 0, none⟩) (fun _ => rfl) _
 have HB2 : Hid ((w1.setCell ⟨bb, 0, none⟩ (.slice AT nT cT)).heap[bb]? = some (.cells #[.slice AT nT cT, .slice AI nI cI, .int .u64 (last : Int)] 132 (0, 0))) := by
  show _ = _
  rw [set_same b1]
  rfl
 have HO2 : Hid (Only (fun k => k = bb) w0 (w1.setCell ⟨bb, 0, none⟩ (.slice AT nT cT))) := (hq1.mono (fun _ _ x => x.elim)).trans ho2
 clear hq1 b1 ho2 HDT k0 kf
 go_upto_region 5 with fail
 generalize w1.setCell ⟨bb, 0, none⟩ (.slice AT nT cT) = w2 at *
 have HOW2 : Hid (Only (fun k => k = bb) w w2) := (HQ0.out.mono (fun _ _ x => x.elim)).trans HO2.out
 have k1 := cell_of HB2.out 1
 have kf2 := fun o => frozen_of HB2.out o
 simp only [zGA, zGS, zGZ] at k1
 have lb2 := lt_of_get HB2.out
 have HROW2 : Hid (BookRow w2 F bb T (.slice AT T.length cT) tps (.slice AI ips.length cI) ips last) := by
  have hb := HB2.out
  rw [<- HNN.out.1, <- HNN.out.2.1] at hb
  exact HH.out.onBox HOW2.out hb HH.out.num
 have hnb : ∀ r, w.heap.size <= r -> r ≠ bb := fun r hr e => by have := lt_of_get HH.out.box; omega
 have HA2 : Hid (w2.heap[r4]? = some (.cells #[ptrV lb] 58 (0, 0)) /\ w2.heap[r5]? = some (.cells #[.int .u64 (hz : Int)] 29 (0, 0)) /\ w2.heap[r8]? = some (.cells #[.slice none 0 0] 71 (0, 0)) /\ w2.heap[r9]? = some (.cells #[.slice none 0 0] 71 (0, 0))) := by
  have hr := HR.out
  exact ⟨HO2.out.get HA.out.1 (hnb _ (by omega)), HO2.out.get HA.out.2.1 (hnb _ (by omega)), HO2.out.get HA.out.2.2.1 (hnb _ (by omega)), HO2.out.get HA.out.2.2.2 (hnb _ (by omega))⟩
 have HDX : Hid (Calls Tryz.prog 184 #[.slice AI nI cI, .func (.func 185) #[] #[ptrV r4, ptrV r5, ptrV r8, ptrV r9]] w2 (fun e w' => e = .returned (.slice AI nI cI) /\ Quiet w2 w')) := by
  obtain ⟨AI', cI', e0, _, _, hf2⟩ := ptr_form HROW2.out.rowI
  injection e0 with e0 _ e0'
  subst e0 e0'
  refine deleteX_none (ps := ips) hf2 HNN.out.2.1 (by rw [<- HNN.out.2.1]; exact HC.out.2.2.1) HC.out.2.2.2 (fun W p hq hp => ?_)
  obtain ⟨i, hi⟩ := List.mem_iff_getElem?.1 hp
  obtain ⟨x, hx⟩ : ∃ x, I[i]? = some x := ⟨_, List.getElem?_eq_getElem (by have := (List.getElem?_eq_some_iff.1 hi).1; have := HX.out.1; omega)⟩
  obtain ⟨p', e1, e2⟩ := HX.out.2 i x hx
  rw [hi] at e1
  injection e1 with e1
  subst e1
  have hbx := hq.get (HOW2.out.get e2.box (ne_type e2.box HH.out.box (by decide))) (fun x => x)
  have b4 := hq.get HA2.out.1 (fun x => x)
  have b5 := hq.get HA2.out.2.1 (fun x => x)
  have b8 := hq.get HA2.out.2.2.1 (fun x => x)
  have hlg : LogAt W Fl lb L := (HL.out.kept HOW2.out (fun k hk e => by subst e; exact HFL.out hk)).kept hq (fun _ _ x => x)
  exact prune2_keep (id := x.id) (name := x.name) ⟨by rw [cell_of hbx]; rfl, by rw [cell_of hbx]; rfl, by rw [cell_of hbx]; rfl, by rw [cell_of hbx]; rfl⟩ (tid := x.table) (by rw [cell_of hbx]; rfl) hlg e2.num.2.1 e2.num.2.2.1 (by rw [cell_of b4]; rfl) (by rw [cell_of b5]; rfl) (by rw [cell_of b8]; rfl) (HI.out x (List.mem_of_getElem? hx))
 go_wp2_with fail
 refine HDX.out.mono ?_
 rintro e w3 ⟨rfl, hq3⟩
 have b3 := hq3.get HB2.out (fun x => x)
 have k3 := cell_of b3 1
 have kf3 := fun o => frozen_of b3 o
 have lb3 := lt_of_get b3
 simp only [zGA, zGS, zGZ] at k3
 have ho4 : Only (fun k => k = bb) w3 (w3.setCell ⟨bb, 1, none⟩ (.slice AI nI cI)) := (Only.refl (fun k => k = bb) w3).setCell (p := ⟨bb, 1, none⟩) (fun _ => rfl) _
 have HB4 : Hid ((w3.setCell ⟨bb, 1, none⟩ (.slice AI nI cI)).heap[bb]? = some (.cells #[.slice AT nT cT, .slice AI nI cI, .int .u64 (last : Int)] 132 (0, 0))) := by
  show _ = _
  rw [set_same b3]
  rfl
 have HO4 : Hid (Only (fun k => k = bb) w2 (w3.setCell ⟨bb, 1, none⟩ (.slice AI nI cI))) := (hq3.mono (fun _ _ x => x.elim)).trans ho4
 clear hq3 b3 ho4 HDX k1 kf2
 go_upto_region 6 with fail
 generalize w3.setCell ⟨bb, 1, none⟩ (.slice AI nI cI) = w4 at *
 have HOW4 : Hid (Only (fun k => k = bb) w w4) := HOW2.out.trans HO4.out
 have hr := HR.out
 have k8 := cell_of (HO4.out.get HA2.out.2.2.1 (hnb _ (by omega))) 0
 have k9 := cell_of (HO4.out.get HA2.out.2.2.2 (hnb _ (by omega))) 0
 simp only [zGA, zGS, zGZ] at k8 k9
 clear hr
 have HEND : Hid (POST (.returned (.tuple #[.slice none 0 0, .slice none 0 0])) w4.drew) := by
  rw [<- HPOST.out]
  have hb := HB4.out
  rw [<- HNN.out.1, <- HNN.out.2.1] at hb
  refine ⟨rfl, HOW4.out.drew, (show BookIs w4 F bb T I last from ⟨_, tps, _, ips, HH.out.onBox HOW4.out hb HH.out.num, HX.out.1, fun i x hx => ?_⟩).kept ((Only.refl (fun _ => False) w4).drew) (fun _ _ x => x)⟩
  obtain ⟨p, e1, e2⟩ := HX.out.2 i x hx
  exact ⟨p, e1, ⟨HOW4.out.get e2.box (ne_type e2.box HH.out.box (by decide)), e2.own, e2.num⟩⟩
 go_region
 go_wp2
 exact HEND.out
def BookLives (s : St) (hz : Nat) : Prop := (∀ t ∈ s.T, deadS s.L t.xmin t.xmax hz = false) /\ ∀ x ∈ s.I, deadS s.L x.xmin x.xmax hz = false
set_option maxHeartbeats 2000000 in
theorem store_prune_keep {w : World} {sb hz N : Nat} {o : Nat -> Nat} {s : St} (h : StoreAt w sb o s) (hh : HorSt s hz) (hlv : BookLives s hz) (hL : s.L.length < 1000000000) (hN : ∀ x y, s.sn x = some y -> x <= N) (hN2 : N <= 2000000) :
  Calls Tryz.prog 117 #[ptrV sb] w (fun e w' => e = .returned (.int .i64 0) /\ StepTo w sb o s w') := by
 have HST := Lib.hid h
 obtain ⟨lb, bb, pb, mh, mt, ms, fh, ft, fs, h⟩ := h
 have HH := Lib.hid h
 have HHZ := Lib.hid hh
 have HLV := Lib.hid hlv
 have HNN := Lib.hid (And.intro hL (And.intro hN hN2))
 have hbb : o bb = 3 := h.book.lt.1
 have HBB := Lib.hid hbb
 have hsb : sb ≠ bb := fun e => by have := h.tags.1; rw [e] at this; omega
 obtain ⟨POST, hPOST⟩ : ∃ POST : Ending -> World -> Prop, (fun e w' => e = .returned (.int .i64 0) /\ StepTo w sb o s w') = POST := ⟨_, rfl⟩
 rw [hPOST]
 have HPOST := Lib.hid hPOST
 have HHO : Hid (∀ W, Quiet w W -> Calls Tryz.prog 43 #[ptrV sb] W (fun e w' => e = .returned (.int .u64 (hz : Int)) /\ Quiet W w')) := fun W hq => by
  refine (store_horizon (HST.out.quietly hq) HNN.out.1 HNN.out.2.1 HNN.out.2.2).mono ?_
  rintro e w' ⟨z, rfl, hh, hq'⟩
  rw [hh.same HHZ.out]
  exact ⟨rfl, hq'⟩
 have HPR : Hid (∀ W, Quiet w W -> Calls Tryz.prog 159 #[ptrV bb, ptrV lb, .int .u64 (hz : Int)] W (fun e w' => e = .returned (.tuple #[.slice none 0 0, .slice none 0 0]) /\ Only (fun k => k = bb) W w' /\ BookIs w' (fun k => o k = 3) bb s.T s.I s.blast)) := fun W hq =>
  book_prune_keep (HH.out.quietly hq).book (HH.out.quietly hq).log HLV.out.1 HLV.out.2 (fun e => by have := HBB.out; omega)
 have HS : Hid (∀ W, Only (fun k => k = bb) w W -> (fun w' => w'.cell? ⟨sb, 1, none⟩ = some (ptrV bb) /\ w'.cell? ⟨sb, 0, none⟩ = some (ptrV lb)) W) := fun W ho => ⟨ho.cell HH.out.cells.2.1 hsb, ho.cell HH.out.cells.1 hsb⟩
 clear h hh hlv hL hN hN2 hPOST
 go_enter Tryz.func117, Tryz.ntmps117
 go_wp2_with fail
 refine zH HS (((Only.refl (fun k => k = bb) _)).drew) (fun hHeld => ?_)
 simp only [List.size_toArray, List.length_cons, List.length_nil, Nat.reduceAdd]
 have q0 : Quiet w w.drew := (Only.refl _ _).drew
 generalize w.drew = d0 at q0 hHeld ⊢
 refine zT 0 ?_
 refine zT 1 ?_
 refine zT 2 ?_
 refine zT 3 ?_
 refine zT 4 ?_
 refine zT 5 ?_
 refine zT 6 ?_
 refine zT 7 ?_
 refine zT 8 ?_
 refine zR 9 ?_
 intro K hK
 go_simp
 go_at_call 43
 refine (HHO.out _ q0).mono ?_
 rintro e d1 ⟨rfl, hq1⟩
 have q1 := q0.trans hq1
 clear hq1
 dsimp only
 refine hK.out _ _ ?_ (fun hHeld => ?_)
 ·exact HS.out _ (q1.mono (fun _ _ x => x.elim))
 clear hK K
 (try simp only [Act.put, zPA, zPZ, zPS])
 refine zR 10 ?_
 intro K hK
 go_simp
 go_at_call 159
 refine (HPR.out _ q1).mono ?_
 rintro e d2 ⟨rfl, ho2, hb2⟩
 dsimp only
 refine hK.out _ _ ?_ (fun hHeld => ?_)
 ·exact HS.out _ ((q1.mono (T := fun k => k = bb) (fun _ _ x => x.elim)).trans ho2)
 clear hK K
 (try simp only [Act.put, zPA, zPZ, zPS])
 refine zT 11 ?_
 refine zT 12 ?_
 refine zT 13 ?_
 refine zT 14 ?_
 refine zT 15 ?_
 refine wpAnyH_done (by kernel_rfl) ?_ _
 have HEND : Hid (POST (.returned (.int .i64 0)) d2) := by
  rw [<- HPOST.out]
  have hst := (HH.out.quietly q1).setBook (ho2.mono (fun k _ e => by rw [e]; exact HBB.out)) (hb2.mono (fun k hk => Or.inl hk))
  refine ⟨rfl, _, fun k hk => grow_old (Nat.lt_of_lt_of_le hk q1.size), ((q1.mono (T := fun k => o k ≠ 0) (fun _ _ x => x.elim)).trans' ho2 (fun k _ e => by have := HBB.out; rw [e]; omega)), _, _, _, _, _, _, _, _, _, hst⟩
 clear hHeld q0 q1 ho2 hb2 HS HHO HPR
 go_wp2
 refine wp_loop_rounds 1 ?_
 rw [rounds_succ]
 go_wp2
 refine wp_loop_rounds 1 ?_
 rw [rounds_succ]
 go_wp2
 exact HEND.out
set_option maxHeartbeats 400000 in
theorem col_named {w : World} {cb kd : Nat} {nm : ByteArray} (hc : w.cell? ⟨cb, 0, none⟩ = some (.string nm)) :
  Calls Tryz.prog 84 #[.agg #[.string nm, .int .u8 (kd : Int)], ptrV cb] w (BoolQ w true) := by
 have hl := cell_lt hc
 dsimp only at hl
 have hne : ¬ cb = w.heap.size := by omega
 go_enter Tryz.func84, Tryz.ntmps84
 go_wp2
 go_ret
 exact ⟨rfl, (Only.refl _ _).alloc _⟩
set_option maxHeartbeats 400000 in
theorem index_col {w : World} {S : Nat -> Prop} {A : Option Addr} {c kd cb : Nat} {nm : ByteArray} (hr : Rd w S 2 A 1 (colsV [(nm, kd)])) (hc : 1 <= c) (hm : c <= maxLen) (hcb : w.cell? ⟨cb, 0, none⟩ = some (.string nm)) :
  Calls Tryz.prog 83 #[.slice A 1 c, .func (.func 84) #[] #[ptrV cb]] w fun e w' => e = .returned (.int .i64 0) /\ Quiet w w' := by
 obtain ⟨b, off, rfl, _, hcs⟩ := hr.at_ (k := 0) (by omega) (by omega)
 obtain ⟨u0, h0, c0⟩ := hcs 0 (by omega)
 obtain ⟨u1, h1, c1⟩ := hcs 1 (by omega)
 obtain rfl : Value.string nm = u0 := Option.some.inj h0
 obtain rfl : Value.int .u8 (kd : Int) = u1 := Option.some.inj h1
 simp only [Nat.zero_mul, Nat.add_zero, Nat.zero_add] at c0 c1
 have HC := Lib.hid hcb
 have hb := cell_lt c0
 dsimp only at hb
 unfold maxLen at hm
 clear hr hcs h0 h1 hcb
 go_enter Tryz.func83, Tryz.ntmps83
 go_wp2
 refine wp_loop_rounds 2 ?_
 rw [rounds_succ]
 go_wp2_with fail
 refine (col_named (kd := kd) HC.out).mono ?_
 rintro e w1 ⟨rfl, hq1⟩
 have HQ1 := Lib.hid hq1
 clear hq1
 go_wp2
 go_ret
 exact ⟨rfl, HQ1.out⟩
theorem BookRow.indexed {w5 w7 : World} {F : Nat -> Prop} {bb last tb : Nat} {vT vI v7 : Value} {t : TE} {e : IE} (h : BookRow w5 F bb [t] vT [tb] vI [] last)
  (hn : U64 e.id /\ U64 e.xmin /\ U64 e.xmax /\ U64 e.table /\ e.column < 8)
  (hg : Grew ((w5.alloc (.cells #[.int .u64 (e.id : Int), .string e.name, .int .u64 (e.xmin : Int), .int .u64 (e.xmax : Int), .int .u64 (e.table : Int), .int .i64 (e.column : Int)] 181)).alloc (.cells #[ptrV w5.heap.size] 179)) w7 179 1 vI v7 1 [ptrV w5.heap.size]) :
  BookIs (w7.setCell ⟨bb, 1, none⟩ v7) (fun k => F k ∨ w5.heap.size <= k) bb [t] [e] last /\ Only F w5 (w7.setCell ⟨bb, 1, none⟩ v7) /\ IdxAt (w7.setCell ⟨bb, 1, none⟩ v7) (fun k => F k ∨ w5.heap.size <= k) w5.heap.size e := by
 have hvi : ∀ k, vI.ownBlock = some k -> F k /\ k < w5.heap.size /\ k ≠ bb /\ ∃ c, w5.heap[k]? = some (.cells c 179 (0, 0)) := fun k e => by
  obtain ⟨c, hh⟩ := own_blk h.rowI e
  exact ⟨h.foot.2.2 k e, lt_of_get hh, (ne_type h.box hh (by decide)).symm, c, hh⟩
 have hvt : ∀ k, vT.ownBlock = some k -> k < w5.heap.size /\ k ≠ bb /\ vI.ownBlock ≠ some k := fun k e => by
  obtain ⟨c, hh⟩ := own_blk h.rowT e
  refine ⟨lt_of_get hh, (ne_type h.box hh (by decide)).symm, fun x => ?_⟩
  obtain ⟨_, _, _, c', hh'⟩ := hvi k x
  exact absurd rfl (ne_type hh hh' (by decide))
 have hl := lt_of_get h.box
 have hq : Quiet w5 ((w5.alloc (.cells #[.int .u64 (e.id : Int), .string e.name, .int .u64 (e.xmin : Int), .int .u64 (e.xmax : Int), .int .u64 (e.table : Int), .int .i64 (e.column : Int)] 181)).alloc (.cells #[ptrV w5.heap.size] 179)) := ((Only.refl _ _).alloc _).alloc _
 have b4 := hg.only.get (hq.get h.box (fun x => x)) (fun e => (hvi bb e).2.2.1 rfl)
 have hx7 := hg.only.get (alloc_old (alloc_new w5 (.cells #[.int .u64 (e.id : Int), .string e.name, .int .u64 (e.xmin : Int), .int .u64 (e.xmax : Int), .int .u64 (e.table : Int), .int .i64 (e.column : Int)] 181)) (.cells #[ptrV w5.heap.size] 179)) (fun e => by have := (hvi _ e).2.1; omega)
 have ho : Only (· = bb) w7 (w7.setCell ⟨bb, 1, none⟩ v7) := (Only.refl (· = bb) w7).setCell (p := ⟨bb, 1, none⟩) (fun _ => rfl) v7
 have hne : ¬ w5.heap.size = bb := by omega
 have hv7 : ∀ k, v7.ownBlock = some k -> (F k ∨ w5.heap.size <= k) /\ k ≠ bb := fun k e => by
  rcases hg.loc with x | x
  ·rw [x] at e; exact ⟨Or.inl (hvi k e).1, (hvi k e).2.2.1⟩
  ·rw [x] at e; injection e with e; simp only [World.size_alloc] at e; exact ⟨Or.inr (by omega), by omega⟩
 have xb := ho.get hx7 hne
 have hIX : IdxAt (w7.setCell ⟨bb, 1, none⟩ v7) (fun k => F k ∨ w5.heap.size <= k) w5.heap.size e := ⟨xb, Or.inr (Nat.le_refl _), hn⟩
 refine ⟨⟨vT, [tb], v7, [w5.heap.size], ⟨?_, ?_, ?_, ?_, ⟨Or.inl h.foot.1, fun k e => Or.inl (h.foot.2.1 k e), fun k e => (hv7 k e).1⟩, h.num⟩, rfl, ?_⟩, ?_, hIX⟩
 ·rw [set_same b4]; rfl
 ·exact owns_kept (owns_kept (owns_kept h.rowT hq (fun _ _ x => x)) hg.only (fun k e x => (hvt k e).2.2 x)) ho (fun k e x => (hvt k e).2.1 x)
 ·exact owns_kept hg.own ho (fun k e x => (hv7 k e).2 x)
 ·intro i t' hi
  rcases i with _ | i
  ·simp at hi
   subst hi
   obtain ⟨p, hp, ht⟩ := h.tbl 0 t rfl
   obtain rfl : tb = p := by simpa using hp
   obtain ⟨A', c', t1, t2⟩ := ht.typ
   obtain ⟨A, c, hb, hr, hc⟩ := ht.ex
   have e0 := hb.symm.trans t1
   injection e0 with e0
   injection e0 with e0 _ _
   injection e0 with e0
   injection e0 with _ e0
   injection e0 with _ e0
   injection e0 with _ e0
   injection e0 with _ e0
   injection e0 with e0 _
   injection e0 with eA _ eC
   subst eA eC
   have g1 : tb ≠ bb := ne_type hb h.box (by decide)
   have g2 : ∀ k, vI.ownBlock = some k -> tb ≠ k := fun k e => by
    obtain ⟨_, _, _, c', hh'⟩ := hvi k e
    exact ne_type hb hh' (by decide)
   have k1 : ∀ g, (Value.slice A t.cols.length c).ownBlock = some g -> g ≠ bb /\ vI.ownBlock ≠ some g := fun g e => by
    obtain ⟨cur, hh⟩ := (t2 g e).2
    refine ⟨ne_type hh h.box (by decide), fun x => ?_⟩
    obtain ⟨_, _, _, c', hh'⟩ := hvi g x
    exact absurd rfl (ne_type hh hh' (by decide))
   have tow : ∀ k x, w5.heap[k]? = some x -> k ≠ bb -> vI.ownBlock ≠ some k -> (w7.setCell ⟨bb, 1, none⟩ v7).heap[k]? = some x := fun k x hx a b => ho.get (hg.only.get (hq.get hx (fun x => x)) b) a
   have hb7 := tow _ _ hb g1 (fun x => g2 _ x rfl)
   refine ⟨tb, rfl, ⟨A, c, hb7, ⟨hr.len, fun h0 => ?_⟩, hc⟩, Or.inl ht.own, ht.pos, ht.num, A, c, hb7, fun g e => ⟨Or.inl (t2 g e).1, by obtain ⟨cur, hh⟩ := (t2 g e).2; exact ⟨cur, tow _ _ hh (k1 g e).1 (k1 g e).2⟩⟩⟩
   obtain ⟨b, off, e1, hb1, hcell⟩ := hr.cells h0
   subst e1
   refine ⟨b, off, rfl, Or.inl hb1, fun j u hu => ?_⟩
   have k2 := k1 b rfl
   exact ho.cell (hg.only.cell (hq.cell (hcell j u hu) (fun x => x)) k2.2) k2.1
  ·simp at hi
 ·intro i e' hi
  rcases i with _ | i
  ·simp at hi
   subst hi
   exact ⟨w5.heap.size, rfl, hIX⟩
  ·simp at hi
 ·exact ((hq.mono (T := F) (fun _ _ x => x.elim)).trans' hg.only (fun k _ e => (hvi k e).1)).trans' ho (fun k _ e => by subst e; exact h.foot.1)
theorem elem_pix : Elem Tryz.prog 130 179 1 8 := Elem.mk' (.pointer none) Tryz.underlying130 (by kernel_rfl) rfl (by decide)
def IndexPost (w : World) (F : Nat -> Prop) (bb last : Nat) (t : TE) (x : IE) (e : Ending) (w' : World) : Prop :=
 e = .returned (.tuple #[.agg (idxE x).toArray, .int .i64 0]) /\ Only F w w' /\ BookIs w' (fun k => F k ∨ w.heap.size <= k) bb [t] [x] (last + 1)
theorem three_alloc (w : World) (o1 o2 o3 : Obj) : Quiet w (((w.alloc o1).alloc o2).alloc o3) /\ (((w.alloc o1).alloc o2).alloc o3).heap[w.heap.size]? = some o1 /\ (((w.alloc o1).alloc o2).alloc o3).heap[w.heap.size + 1]? = some o2 /\ (((w.alloc o1).alloc o2).alloc o3).heap[w.heap.size + 1 + 1]? = some o3 := by
 have h2 := alloc_new (w.alloc o1) o2
 have h3 := alloc_new ((w.alloc o1).alloc o2) o3
 simp only [World.size_alloc] at h2 h3
 exact ⟨(((Only.refl _ _).alloc _).alloc _).alloc _, alloc_old (alloc_old (alloc_new w o1) o2) o3, alloc_old h2 o3, h3⟩
set_option maxHeartbeats 4000000 in
theorem book_index {w : World} {F Fl Ss : Nat -> Prop} {bb lb last c kd : Nat} {A : Option Addr} {L : List Nat} {s : Snap} {t : TE} {name of_ nm : ByteArray} (h : BookIs w F bb [t] [] last) (hl : LogAt w Fl lb L) (hs : SnapV w Ss A c s) (hlast : last < 1000000)
  (hc : t.cols = [(nm, kd)]) (hf : findT L s of_ [t] = some 0) (hnm : Small name) (hne : (t.name.toList == name.toList) = false) (hid : U64 t.id) (hu : U64 s.own) (hF : ∀ k, F k -> k < w.heap.size) :
  Calls Tryz.prog 40 #[ptrV bb, ptrV lb, snapV s A c, .string name, .string of_, .string nm] w (IndexPost w F bb last t ⟨last + 1, name, t.id, 0, s.own, 0⟩) := by
 obtain ⟨vT, tps, vI, ips, hrow, hi0, _⟩ := h
 have hips : ips = [] := List.eq_nil_of_length_eq_zero hi0
 subst hips
 obtain ⟨tb, htp, _⟩ := hrow.tbl 0 t rfl
 obtain rfl : tps = [tb] := by
  have := hrow.tlen
  rcases tps with _ | ⟨a, _ | _⟩
  ·cases this
  ·simp at htp; rw [htp]
  ·cases this
 have HROW := Lib.hid hrow
 have HLOG := Lib.hid hl
 have HSN := Lib.hid hs
 have HC := Lib.hid hc
 have HF := Lib.hid hf
 have HNUM := Lib.hid (And.intro hid hu)
 have HNM : Hid (∀ W, Calls Tryz.prog 52 #[.string name] W (BoolQ W true)) := fun W => book_name name hnm W
 have HNE := Lib.hid hne
 have HFW := Lib.hid hF
 obtain ⟨hq3, hb8, hb11, hb12⟩ := three_alloc w (.cells (snapCells s A c) 73) (.cells #[.string nm] 9) (.cells #[.int .u64 0, .string ⟨#[]⟩, .int .u64 0, .int .i64 0, .int .u64 0, .int .u64 0] 111)
 obtain ⟨r8, hr8⟩ : ∃ r8, w.heap.size = r8 := ⟨_, rfl⟩
 obtain ⟨r11, hr11⟩ : ∃ r11, r8 + 1 = r11 := ⟨_, rfl⟩
 obtain ⟨r12, hr12⟩ : ∃ r12, r11 + 1 = r12 := ⟨_, rfl⟩
 rw [hr8] at hb8 hb11 hb12
 rw [hr11] at hb11 hb12
 rw [hr12] at hb12
 have HR := Lib.hid (And.intro hr8 (And.intro hr11 hr12))
 obtain ⟨POST, hPOST⟩ : ∃ POST, IndexPost w F bb last t ⟨last + 1, name, t.id, 0, s.own, 0⟩ = POST := ⟨_, rfl⟩
 rw [hPOST]
 have HPOST := Lib.hid hPOST
 unfold snapV
 clear hrow hl hs hc hf hnm hne hid hu hi0 htp hPOST hF
 go_enter Tryz.func40, Tryz.ntmps40
 go_wp2_with fail
 (try simp only [World.size_alloc] at *)
 (try rw [hr8]); (try rw [hr11]); (try rw [hr12])
 generalize ((w.alloc (.cells (snapCells s A c) 73)).alloc (.cells #[.string nm] 9)).alloc (.cells #[.int .u64 0, .string ⟨#[]⟩, .int .u64 0, .int .i64 0, .int .u64 0, .int .u64 0] 111) = w0 at *
 have HQ0 := Lib.hid hq3
 have HB0 := Lib.hid (And.intro hb8 (And.intro hb11 hb12))
 clear hq3 hb8 hb11 hb12 hr8 hr11 hr12
 refine (HNM.out _).mono ?_
 rintro e w1 ⟨rfl, hq1⟩
 have HQ1 := Lib.hid (HQ0.out.trans hq1)
 have HQ01 := Lib.hid hq1
 obtain ⟨s0, s1, s2, s3⟩ := snapBox_cells (hq1.get HB0.out.1 (fun x => x))
 have HTB : Hid (Calls Tryz.prog 82 #[.pointer (some ⟨bb, 0, none⟩), .pointer (some ⟨lb, 0, none⟩), snapV s A c, .string of_] w1 (TabPost w1 [tb] (findT L s of_ [t]))) := book_table of_ (HROW.out.kept HQ1.out (fun _ _ x => x)) (HLOG.out.kept HQ1.out (fun _ _ x => x)) (HSN.out.kept HQ1.out (fun _ _ x => x))
 rw [HF.out] at HTB
 unfold snapV at HTB
 clear hq1 HNM
 go_wp2_with fail
 refine HTB.out.mono ?_
 rintro e w2 ⟨⟨p, hp, rfl⟩, hq2⟩
 obtain rfl : tb = p := by simpa using hp
 have HQ2 := Lib.hid (HQ1.out.trans hq2)
 have HQ02 := Lib.hid (HQ01.out.trans hq2)
 obtain ⟨_, htp2, hta⟩ := (HROW.out.kept HQ2.out (fun _ _ x => x)).tbl 0 t rfl
 obtain rfl : tb = _ := by simpa using htp2
 obtain ⟨AT, cT, hbt, hrt, hct, hmt⟩ := hta.ex
 have ct4 : w2.cell? ⟨tb, 4, none⟩ = some (.slice AT t.cols.length cT) := by rw [cell_of hbt]; rfl
 have lt4 := cell_lt ct4
 dsimp only at lt4
 have cc : w2.cell? ⟨r11, 0, none⟩ = some (.string nm) := by rw [cell_of (HQ02.out.get HB0.out.2.1 (fun x => x))]; rfl
 have HIX : Hid (Calls Tryz.prog 83 #[.slice AT t.cols.length cT, .func (.func 84) #[] #[ptrV r11]] w2 fun e w' => e = .returned (.int .i64 0) /\ Quiet w2 w') := by
  rw [HC.out] at hrt hct ⊢
  exact index_col (kd := kd) hrt hct hmt cc
 clear s0 s1 s2 s3 hp hq2 htp2 hta hbt hrt hct hmt cc HTB
 go_wp2_with fail
 refine HIX.out.mono ?_
 rintro e w3 ⟨rfl, hq3⟩
 have HQ3 := Lib.hid (HQ2.out.trans hq3)
 have HQ03 := Lib.hid (HQ02.out.trans hq3)
 obtain ⟨s0, s1, s2, s3⟩ := snapBox_cells (HQ03.out.get HB0.out.1 (fun x => x))
 have HTK : Hid (Calls Tryz.prog 54 #[.pointer (some ⟨bb, 0, none⟩), .pointer (some ⟨lb, 0, none⟩), snapV s A c, .string name] w3 fun e w' => e = .returned (.int .i64 0) /\ Quiet w3 w') := taken_one (HROW.out.kept HQ3.out (fun _ _ x => x)) HNE.out
 unfold snapV at HTK
 clear ct4 lt4 hq3 HIX
 go_wp2_with fail
 refine HTK.out.mono ?_
 rintro e w4 ⟨rfl, hq4⟩
 have HQ4 := Lib.hid (HQ3.out.trans hq4)
 have HQ04 := Lib.hid (HQ03.out.trans hq4)
 have hrow4 := HROW.out.kept HQ4.out (fun _ _ x => x)
 obtain ⟨_, k1, _⟩ := hrow4.cells
 obtain ⟨AI, cI, hvI, hcI, hmI, _⟩ := ptr_form hrow4.rowI
 subst hvI
 have lbb := cell_lt k1
 dsimp only at lbb
 have hb8 := HQ04.out.get HB0.out.1 (fun x => x)
 obtain ⟨_, htp4, hta4⟩ := hrow4.tbl 0 t rfl
 obtain rfl : tb = _ := by simpa using htp4
 obtain ⟨AT4, cT4, hbt4, _⟩ := hta4.ex
 have hne8 : r8 ≠ bb := fun e => by have := HR.out.1; have := lt_of_get HROW.out.box; omega
 have hnet : tb ≠ bb := ne_type hbt4 hrow4.box (by decide)
 have HS16 : Hid (∀ W, Only (· = bb) w4 W -> (fun w' => w'.cell? ⟨r8, 0, none⟩ = some (.int .u64 (s.own : Int)) /\ w'.cell? ⟨r8, 1, none⟩ = some (.int .u64 (s.xmin : Int)) /\ w'.cell? ⟨r8, 2, none⟩ = some (.int .u64 (s.xmax : Int)) /\ w'.cell? ⟨r8, 3, none⟩ = some (.slice A s.run.length c) /\ w'.cell? ⟨tb, 0, none⟩ = some (.int .u64 (t.id : Int))) W) := fun W ho => by
  obtain ⟨s0, s1, s2, s3⟩ := snapBox_cells (ho.get hb8 hne8)
  exact ⟨s0, s1, s2, s3, by rw [cell_of (ho.get hbt4 hnet)]; rfl⟩
 have HFR : Hid (∀ W, Quiet w4 W -> Calls Tryz.prog 55 #[.pointer (some ⟨bb, 0, none⟩), .agg #[.int .u64 (s.own : Int), .int .u64 (s.xmin : Int), .int .u64 (s.xmax : Int), .slice A s.run.length c], .string name] W (FreshEPost W F bb [t] vT [tb] (.slice AI 0 cI) [] last s.own name)) := fun W hq => book_fresh (hrow4.kept hq (fun _ _ x => x)) hlast
 clear s0 s1 s2 s3 hq4 hrow4 htp4 hta4 hb8 hbt4 HTK hcI
 unfold maxLen at hmI
 go_wp2_with fail
 refine zH HS16 ((Only.refl _ _).drew) (fun hHeld => ?_)
 simp only [List.size_toArray, List.length_cons, List.length_nil, Nat.reduceAdd]
 have q0 : Quiet w4 w4.drew := (Only.refl _ _).drew
 generalize w4.drew = d0 at q0 hHeld ⊢
 refine zT 0 ?_
 refine zT 1 ?_
 refine zT 2 ?_
 refine zT 4 ?_
 refine zT 5 ?_
 refine zT 6 ?_
 refine zT 7 ?_
 refine zT 8 ?_
 refine zT 9 ?_
 refine zR 3 ?_
 intro K hK
 go_simp
 go_at_call 55
 refine (HFR.out _ q0).mono ?_
 rintro e d1 ⟨rfl, ho1, hr1⟩
 dsimp only
 refine hK.out _ _ ?_ (fun hHeld => ?_)
 ·exact HS16.out _ ((q0.mono (fun _ _ x => x.elim)).trans ho1)
 clear hK K
 (try simp only [Act.put, zPA, zPZ, zPS])
 refine zT 10 ?_
 refine zR 11 ?_
 intro K hK
 go_simp
 refine hK.out _ _ ?_ (fun hHeld => ?_)
 ·exact HS16.out _ (((q0.mono (fun _ _ x => x.elim)).trans ho1).alloc _)
 clear hK K
 (try simp only [Act.put, zPA, zPZ, zPS])
 refine zT 12 ?_
 refine wpAnyH_done (by kernel_rfl) ?_ _
 obtain ⟨_, k1, _⟩ := hr1.cells
 have HOWN : Hid (World.ownsRow ((d1.alloc (.cells #[.int .u64 ((last : Int) + 1), .string name, .int .u64 (s.own : Int), .int .u64 0, .int .u64 (t.id : Int), .int .i64 0] 181)).alloc (.cells #[ptrV d1.heap.size] 179)) 0 179 1 (.slice AI 0 cI) 0 []) := owns_kept hr1.rowI (((Only.refl (fun _ => False) d1).alloc _).alloc _) (fun _ _ x => x)
 have HRD : Hid (Rd ((d1.alloc (.cells #[.int .u64 ((last : Int) + 1), .string name, .int .u64 (s.own : Int), .int .u64 0, .int .u64 (t.id : Int), .int .i64 0] 181)).alloc (.cells #[ptrV d1.heap.size] 179)) (fun _ => True) 1 (some ⟨d1.heap.size + 1, 0, none⟩) 1 [ptrV d1.heap.size]) := by
  have := Rd.one (d1.alloc (.cells #[.int .u64 ((last : Int) + 1), .string name, .int .u64 (s.own : Int), .int .u64 0, .int .u64 (t.id : Int), .int .i64 0] 181)) (ptrV d1.heap.size) 179 (0, 0) (S := fun _ => True) trivial
  rw [World.size_alloc] at this
  exact this
 have HQD : Hid (Only (· = bb) w4 d1) := (q0.mono (fun _ _ x => x.elim)).trans ho1
 have hr12 : r12 ≠ bb := fun e => by have := HR.out; have := lt_of_get HROW.out.box; omega
 have hb12 := HQD.out.get (HQ04.out.get HB0.out.2.2 (fun x => x)) hr12
 have HR1 := Lib.hid hr1
 have HB12 := Lib.hid (And.intro hb12 hr12)
 have lb1 := lt_of_get hr1.box
 have hbx1 : ¬ bb = d1.heap.size := by omega
 have hbx2 : ¬ bb = d1.heap.size + 1 := by omega
 clear hHeld q0 ho1 hr1 hb12 hr12 HS16 HFR hne8 hnet k1
 obtain ⟨_, k1, _⟩ := HR1.out.cells
 have kf := fun o => frozen_of HR1.out.box o
 go_wp2_with (at_builtin; refine app elem_pix rfl (.tmp 76) (.tmp 78) rfl rfl HOWN.out rfl HRD.out (one_ptr [d1.heap.size]) (by unfold maxLen; omega) (by omega) ?_)
 intro v7 w7 hg7
 obtain ⟨A7, c7, hv7, _, _, _⟩ := own_form hg7.own
 subst hv7
 have HFI := Lib.hid (HR1.out.indexed (e := ⟨last + 1, name, t.id, 0, s.own, 0⟩) ⟨by show last + 1 < 18446744073709551616; omega, HNUM.out.2, by show 0 < 18446744073709551616; omega, HNUM.out.1, by show 0 < 8; omega⟩ hg7)
 have hqa : Quiet d1 ((d1.alloc (.cells #[.int .u64 ((last : Int) + 1), .string name, .int .u64 (s.own : Int), .int .u64 0, .int .u64 (t.id : Int), .int .i64 0] 181)).alloc (.cells #[ptrV d1.heap.size] 179)) := ((Only.refl _ _).alloc _).alloc _
 have b7 := hg7.only.get (hqa.get HR1.out.box (fun x => x)) (fun e => by
   obtain ⟨c, hh⟩ := own_blk HR1.out.rowI e
   exact absurd rfl (ne_type HR1.out.box hh (by decide)))
 have r7 := hg7.only.get (hqa.get HB12.out.1 (fun x => x)) (fun e => by
   obtain ⟨c, hh⟩ := own_blk HR1.out.rowI e
   exact absurd rfl (ne_type HB12.out.1 hh (by decide)))
 have r8_ := ((Only.refl (· = bb) w7).setCell (p := ⟨bb, 1, none⟩) (fun _ => rfl) (.slice A7 (0 + 1) c7)).get r7 HB12.out.2
 have HB8 := Lib.hid r8_
 have s1 := cell_of b7 1
 have sf := fun o => frozen_of b7 o
 simp only [zGA, zGS, zGZ] at s1
 have lb7 := lt_of_get b7
 have HTO := Lib.hid (index_told HFI.out.2.2)
 clear hg7 hqa b7 r7 r8_ HOWN HRD k1 kf hbx1 hbx2
 simp only [Nat.zero_add] at HFI HB8 HTO
 go_wp2_with fail
 (try simp only [Nat.zero_add])
 refine HTO.out.mono ?_
 rintro e w9 ⟨rfl, hq9⟩
 have hb9 := hq9.get HB8.out (fun x => x)
 have z0 := cell_of hb9 0
 have z1 := cell_of hb9 1
 have z2 := cell_of hb9 2
 have z3 := cell_of hb9 3
 have z4 := cell_of hb9 4
 have z5 := cell_of hb9 5
 have zf := fun o => frozen_of hb9 o
 simp only [zGA, zGS, zGZ] at z0 z1 z2 z3 z4 z5
 have HX := Lib.hid (sixSet_same hb9 (.int .u64 ((last : Int) + 1)) (.string name) (.int .u64 (t.id : Int)) (.int .i64 0) (.int .u64 (s.own : Int)) (.int .u64 0))
 have HEND : Hid (POST (.returned (.tuple #[.agg #[.int .u64 ((last : Int) + 1), .string name, .int .u64 (t.id : Int), .int .i64 0, .int .u64 (s.own : Int), .int .u64 0], .int .i64 0])) (sixSet w9 r12 (.int .u64 ((last : Int) + 1)) (.string name) (.int .u64 (t.id : Int)) (.int .i64 0) (.int .u64 (s.own : Int)) (.int .u64 0))) := by
  rw [<- HPOST.out]
  have ho := sixSet_only w9 r12 (.int .u64 ((last : Int) + 1)) (.string name) (.int .u64 (t.id : Int)) (.int .i64 0) (.int .u64 (s.own : Int)) (.int .u64 0)
  have hl12 := lt_of_get HB12.out.1
  have hr := HR.out
  have z4' := HQ4.out.size
  have zd := HQD.out.size
  refine ⟨rfl, ((((HQ4.out.mono (T := F) (fun _ _ x => x.elim)).trans' HQD.out (fun k _ e => by subst e; exact HROW.out.foot.1)).trans HFI.out.2.1).trans' hq9 (fun _ _ x => x.elim)).trans' ho (fun k hk e => by omega), ?_⟩
  refine ((HFI.out.1.kept hq9 (fun _ _ x => x)).kept ho (fun k hk e => ?_)).mono (fun k hk => ?_)
  ·subst e
   rcases hk with a | a
   ·have := HFW.out _ a; omega
   ·omega
  ·rcases hk with a | a
   ·exact Or.inl a
   ·exact Or.inr (by omega)
 unfold sixSet at HX HEND
 clear hq9 hb9 HTO HFI HB8
 go_wp2
 exact bodyPost_ret (results_cell_tmp Tryz.results40 _ _ r12 _ _ (0, 0) _ (by rfl) HX.out Tryz.underlying111 rfl info_idx) (by rfl) HEND.out
section
variable {w w' : World} {sb : Nat} {o : Nat -> Nat} {s : St} {lb bb pb mh mt ms : Nat} {fh ft fs : Nat -> Option Value}
theorem StoreRow.newTree {id tb B : Nat} {es : List Ent} (h : StoreRow w sb o s lb bb pb mh mt ms fh ft fs) (hB : ∀ k, B <= k -> o k = 0) (hBw : B <= w.heap.size) (ho : Only (fun k => k = mt) w w') (hm : MapF w' mt (upd ft id (some (ptrV tb)))) (hl : TreeIs w' (fun k => B <= k) tb es) :
  StoreRow w' sb (grow o B w'.heap.size (11 + 2 * id)) { s with ts := upd s.ts id (some es) } lb bb pb mh mt ms fh (upd ft id (some (ptrV tb))) fs := by
 obtain ⟨t1, t2, t3, t4, t5⟩ := h.tags
 have hg : OwnOn o (grow o B w'.heap.size (11 + 2 * id)) := OwnOn.grow hB
 have hn : ∀ k, k = mt -> o k = 7 := fun k x => by rw [x]; exact t4
 refine ⟨ho.get h.box (fun x => by have := hn _ x; omega), logK h.log ho hg (by omega) (fun k x => by have := hn _ x; omega), bookK h.book ho hg (by omega) (fun k x => by have := hn _ x; omega), h.pool.kept ho (fun x => by have := hn _ x; omega),
   h.mH.kept ho (fun x => by have := hn _ x; omega), hm, h.mS.kept ho (fun x => by have := hn _ x; omega), ⟨by rw [hg _ (by omega)]; exact t1, by rw [hg _ (by omega)]; exact t2, by rw [hg _ (by omega)]; exact t3, by rw [hg _ (by omega)]; exact t4, by rw [hg _ (by omega)]; exact t5⟩, fun k hk => grow_big hB (Nat.le_trans hBw ho.size) hk,
   heapsK h.heaps ho hg (fun k x i H _ => by have := hn _ x; omega), ⟨fun i hi => ?_, fun i es' hi => ?_⟩, snapsK h.snaps ho hg (fun k x => by have := hn _ x; omega), h.num⟩
 ·by_cases e : i = id
  ·subst e; simp [upd] at hi
  ·have := h.trees.1 i (by simpa [upd, e] using hi)
   simpa [upd, e] using this
 ·by_cases e : i = id
  ·subst e
   have : es = es' := by simpa [upd] using hi
   subst this
   exact ⟨tb, by simp [upd], hl.mono (fun k hk hlt => grow_new hk hlt)⟩
  ·obtain ⟨tb2, e2, h2⟩ := h.trees.2 i es' (by simpa [upd, e] using hi)
   exact ⟨tb2, by simpa [upd, e] using e2, treeK h2 ho hg (by omega) (fun k x => by have := hn _ x; omega)⟩
end
theorem elem_intE : Elem Tryz.prog 51 3 1 8 := Elem.mk' (.int .i64 0) Tryz.underlying51 (by kernel_rfl) rfl (by decide)
def intsV (l : List Nat) : List Value := l.map (fun (n : Nat) => .int .i64 (n : Int))
theorem one_intE (n : Nat) : ∀ u ∈ [Value.int .i64 (n : Int)], u.oneCell' = true := by
 intro u hu
 rw [List.mem_singleton] at hu
 rw [hu]
 rfl
structure IntsW (w wr : World) (v : Value) (l : List Nat) : Prop where
 quiet : Quiet w wr
 new : ∀ k, v.ownBlock = some k -> w.heap.size <= k
 own : wr.ownsRow 0 3 1 v l.length (intsV l)
theorem IntsW.start {w wr : World} (h : Quiet w wr) : IntsW w wr (.slice none 0 0) [] := ⟨h, (fun k e => by cases e), World.ownsRow_nil _ _ _ _⟩
theorem IntsW.quietly {w wr w' : World} {v : Value} {l : List Nat} (h : IntsW w wr v l) (hq : Quiet wr w') : IntsW w w' v l := ⟨h.quiet.trans hq, h.new, owns_kept h.own hq (fun _ _ x => x)⟩
theorem IntsW.from {w0 w wr : World} {v : Value} {l : List Nat} (h : IntsW w wr v l) (hq : Quiet w0 w) : IntsW w0 wr v l := ⟨hq.trans h.quiet, fun k e => Nat.le_trans hq.size (h.new k e), h.own⟩
theorem IntsW.push {w w3 w4 : World} {v v' : Value} {l : List Nat} {n : Nat} (h : IntsW w w3 v l) (hg : Grew w3 w4 3 1 v v' (l.length + 1) (intsV l ++ [.int .i64 (n : Int)])) : IntsW w w4 v' (l ++ [n]) := by
 have hsz := h.quiet.size
 refine ⟨h.quiet.trans' hg.only (fun k hk e => by have := h.new k e; omega), fun k e => ?_, ?_⟩
 ·rcases hg.loc with y | y
  ·rw [y] at e; exact h.new k e
  ·rw [y] at e; injection e with e; omega
 ·rw [List.length_append]
  have e1 : intsV (l ++ [n]) = intsV l ++ [.int .i64 (n : Int)] := by simp [intsV]
  rw [e1]
  exact hg.own
def IntsPost (w : World) (l : List Nat) (e : Ending) (w' : World) : Prop := ∃ v, e = .returned v /\ IntsW w w' v l
theorem IdxsW.join {w wr w4 : World} {v v' : Value} {l m : List IE} (h : IdxsW w wr v l) (hg : Grew wr w4 111 6 v v' (l.length + m.length) (idxV l ++ idxV m)) : IdxsW w w4 v' (l ++ m) := by
 have hsz := h.quiet.size
 refine ⟨h.quiet.trans' hg.only (fun k hk e => by have := h.new k e; omega), fun k e => ?_, ?_⟩
 ·rcases hg.loc with y | y
  ·rw [y] at e; exact h.new k e
  ·rw [y] at e; injection e with e; omega
 ·rw [List.length_append, idxV_append]
  exact hg.own
theorem one_idxs (l : List IE) : ∀ u ∈ idxV l, u.oneCell' = true := by
 intro u hu
 obtain ⟨e, _, h⟩ := List.mem_flatMap.1 hu
 exact one_idx e u h
def TabvPost (w : World) (t : TE) (e : Ending) (w' : World) : Prop := ∃ A c, e = .returned (tabV t A c) /\ Quiet w w' /\ Rd w' (fun k => w.heap.size <= k) 2 A t.cols.length (colsV t.cols) /\ t.cols.length <= c /\ c <= maxLen
set_option maxHeartbeats 2000000 in
theorem store_table {w : World} {sb : Nat} {o : Nat -> Nat} {s : St} {t : TE} (h : StoreAt w sb o s) (hT : s.T = [t]) :
  Calls Tryz.prog 42 #[ptrV sb, .int .u64 (t.id : Int)] w (TabvPost w t) := by
 obtain ⟨lb, bb, pb, mh, mt, ms, fh, ft, fs, h⟩ := h
 obtain ⟨_, c1, _⟩ := h.cells
 have hbk := h.book
 rw [hT] at hbk
 have lsb := cell_lt c1
 dsimp only at lsb
 have hq0 : Quiet w (w.alloc (.cells #[.int .u64 0, .string ⟨#[]⟩, .slice none 0 0, .int .u64 0, .int .u64 0] 83)) := (Only.refl _ _).alloc _
 have hb4 := alloc_new w (.cells #[.int .u64 0, .string ⟨#[]⟩, .slice none 0 0, .int .u64 0, .int .u64 0] 83)
 have HTB := Lib.hid (tables_one (hbk.kept hq0 (fun _ _ x => x)))
 obtain ⟨r4, hr4⟩ : ∃ r4, w.heap.size = r4 := ⟨_, rfl⟩
 rw [hr4] at hb4
 have HQ0 := Lib.hid hq0
 have HB4 := Lib.hid hb4
 have HR4 := Lib.hid hr4
 obtain ⟨POST, hPOST⟩ : ∃ POST, TabvPost w t = POST := ⟨_, rfl⟩
 rw [hPOST]
 have HPOST := Lib.hid hPOST
 have hne : ¬ sb = w.heap.size := by omega
 have hne4 : ¬ sb = r4 := by omega
 have lsb4 : sb < r4 := by omega
 clear h hbk hPOST
 go_enter Tryz.func42, Tryz.ntmps42
 go_wp2_with fail
 (try rw [hr4])
 generalize w.alloc (.cells #[.int .u64 0, .string ⟨#[]⟩, .slice none 0 0, .int .u64 0, .int .u64 0] 83) = w0 at *
 clear hq0 hb4 hr4
 refine HTB.out.mono ?_
 rintro e w1 ⟨b, cap, A, c, rfl, hO⟩
 have HO := Lib.hid hO
 obtain ⟨t0, t1, t2, t3, t4⟩ := hO.cells
 have lb1 := cell_lt t0
 dsimp only at lb1
 have hb4 := hO.quiet.get HB4.out (fun x => x)
 have z0 := cell_of hb4 0
 have z1 := cell_of hb4 1
 have z2 := cell_of hb4 2
 have z3 := cell_of hb4 3
 have z4 := cell_of hb4 4
 have zf := fun o => frozen_of hb4 o
 simp only [zGA, zGS, zGZ] at z0 z1 z2 z3 z4
 have lr4 := lt_of_get hb4
 have hEQ : ((t.id : Int) == (t.id : Int)) = true := by simp
 have HX := Lib.hid (alloc_old (fiveSet_same hb4 (.int .u64 (t.id : Int)) (.string t.name) (.slice A t.cols.length c) (.int .u64 (t.xmin : Int)) (.int .u64 (t.xmax : Int))) (.cells #[.int .u64 (t.id : Int), .string t.name, .slice A t.cols.length c, .int .u64 (t.xmin : Int), .int .u64 (t.xmax : Int)] 83))
 have HEND : Hid (POST (.returned (tabV t A c)) ((fiveSet w1 r4 (.int .u64 (t.id : Int)) (.string t.name) (.slice A t.cols.length c) (.int .u64 (t.xmin : Int)) (.int .u64 (t.xmax : Int))).alloc (.cells #[.int .u64 (t.id : Int), .string t.name, .slice A t.cols.length c, .int .u64 (t.xmin : Int), .int .u64 (t.xmax : Int)] 83))) := by
  rw [<- HPOST.out]
  have ho := fiveSet_only w1 r4 (.int .u64 (t.id : Int)) (.string t.name) (.slice A t.cols.length c) (.int .u64 (t.xmin : Int)) (.int .u64 (t.xmax : Int))
  have hqa : Quiet (fiveSet w1 r4 (.int .u64 (t.id : Int)) (.string t.name) (.slice A t.cols.length c) (.int .u64 (t.xmin : Int)) (.int .u64 (t.xmax : Int))) ((fiveSet w1 r4 (.int .u64 (t.id : Int)) (.string t.name) (.slice A t.cols.length c) (.int .u64 (t.xmin : Int)) (.int .u64 (t.xmax : Int))).alloc (.cells #[.int .u64 (t.id : Int), .string t.name, .slice A t.cols.length c, .int .u64 (t.xmin : Int), .int .u64 (t.xmax : Int)] 83)) := (Only.refl _ _).alloc _
  have hz := HQ0.out.size
  have hl := lt_of_get HB4.out
  refine ⟨A, c, rfl, ((HQ0.out.trans HO.out.quiet).trans' ho (fun k hk e => by have := HR4.out; omega)).trans hqa, ((HO.out.cols.1.kept ho (fun k hk e => by have := hk.1; omega)).kept hqa (fun _ _ x => x)).mono (fun k hk => by have := hk.1; omega), HO.out.cols.2.1, HO.out.cols.2.2⟩
 unfold fiveSet at HX HEND
 unfold tabV at HEND
 clear hO hb4 HTB
 go_wp2
 refine wp_loop_rounds 1 ?_
 rw [rounds_succ]
 go_wp2
 exact bodyPost_ret (results_cellS Tryz.results42 _ _ r4 _ _ (0, 0) _ (by rfl) HX.out Tryz.underlying83 rfl info_tab) (by rfl) HEND.out
def BookPost (w : World) (t : TE) (l : List IE) (e : Ending) (w' : World) : Prop := ∃ b cap A c v, e = .returned (.tuple #[.slice (some ⟨b, 0, none⟩) 1 cap, v]) /\ OneTab w w' t b A c /\ IdxsW w w' v l
set_option maxHeartbeats 4000000 in
theorem store_book {w : World} {sb : Nat} {o : Nat -> Nat} {s : St} {t : TE} (h : StoreAt w sb o s) (hT : s.T = [t]) (hI : s.I.length <= 1000) :
  Calls Tryz.prog 38 #[ptrV sb] w (BookPost w t (keptI s.L t.id s.I)) := by
 obtain ⟨lb, bb, pb, mh, mt, ms, fh, ft, fs, h⟩ := h
 obtain ⟨c0, c1, _⟩ := h.cells
 have hbk := h.book
 rw [hT] at hbk
 have lsb := cell_lt c1
 dsimp only at lsb
 have HTB := Lib.hid (tables_one hbk)
 have HBK := Lib.hid hbk
 have HLG := Lib.hid h.log
 have HI := Lib.hid hI
 obtain ⟨POST, hPOST⟩ : ∃ POST, BookPost w t (keptI s.L t.id s.I) = POST := ⟨_, rfl⟩
 rw [hPOST]
 have HPOST := Lib.hid hPOST
 clear h hbk hPOST
 go_enter Tryz.func38, Tryz.ntmps38
 go_wp2_with fail
 refine HTB.out.mono ?_
 rintro e w1 ⟨b, cap, A, c, rfl, hO⟩
 obtain ⟨t0, t1, t2, t3, t4⟩ := hO.cells
 have lb1 := cell_lt t0
 dsimp only at lb1
 have hqa : Quiet w1 (w1.alloc (.cells #[.int .u64 (t.id : Int), .string t.name, .slice A t.cols.length c, .int .u64 (t.xmin : Int), .int .u64 (t.xmax : Int)] 83)) := (Only.refl _ _).alloc _
 have hba := alloc_new w1 (.cells #[.int .u64 (t.id : Int), .string t.name, .slice A t.cols.length c, .int .u64 (t.xmin : Int), .int .u64 (t.xmax : Int)] 83)
 obtain ⟨r7, hr7⟩ : ∃ r7, w1.heap.size = r7 := ⟨_, rfl⟩
 rw [hr7] at hba
 have HO := Lib.hid (hO.quietly hqa)
 have HBA := Lib.hid hba
 have HR7 := Lib.hid hr7
 have HC := Lib.hid (And.intro c0 c1)
 clear hO HTB hba c0
 go_wp2
 refine wp_loop_rounds 2 ?_
 rw [rounds_succ]
 go_wp2_with fail
 (try rw [hr7])
 generalize w1.alloc (.cells #[.int .u64 (t.id : Int), .string t.name, .slice A t.cols.length c, .int .u64 (t.xmin : Int), .int .u64 (t.xmax : Int)] 83) = w2 at *
 have hq2 := HO.out.quiet
 clear hqa hr7 t0 t1 t2 t3 t4 lb1
 have HS8 : Hid (∀ W, Quiet w2 W -> (fun w' => w'.cell? ⟨sb, 1, none⟩ = some (ptrV bb) /\ w'.cell? ⟨sb, 0, none⟩ = some (ptrV lb) /\ w'.cell? ⟨r7, 0, none⟩ = some (.int .u64 (t.id : Int))) W) := fun W hq => ⟨(hq2.trans hq).cell HC.out.2 (fun x => x), (hq2.trans hq).cell HC.out.1 (fun x => x), by rw [cell_of (hq.get HBA.out (fun x => x))]; rfl⟩
 have HKEEP : Hid (∀ W, Quiet w2 W -> Calls Tryz.prog 61 #[ptrV bb, ptrV lb, .int .u64 (t.id : Int)] W (KeepPost W (keptI s.L t.id s.I))) := fun W hq => book_keep (HBK.out.kept (hq2.trans hq) (fun _ _ x => x)) (HLG.out.kept (hq2.trans hq) (fun _ _ x => x)) HI.out
 have HLK : Hid ((keptI s.L t.id s.I).length <= 1000) := Nat.le_trans (List.length_filter_le _ _) HI.out
 obtain ⟨kl, hkl⟩ : ∃ kl, keptI s.L t.id s.I = kl := ⟨_, rfl⟩
 rw [hkl] at HKEEP HPOST HLK
 clear hkl
 obtain ⟨m, hm⟩ : ∃ m, kl.length = m := ⟨_, rfl⟩
 have HM := Lib.hid hm
 rw [hm] at HLK
 clear hm hq2 c1
 refine zH HS8 ((Only.refl _ _).drew) (fun hHeld => ?_)
 simp only [List.size_toArray, List.length_cons, List.length_nil, Nat.reduceAdd]
 have q0 : Quiet w2 w2.drew := (Only.refl _ _).drew
 generalize w2.drew = d0 at q0 hHeld ⊢
 refine zT 0 ?_
 refine zT 1 ?_
 refine zT 2 ?_
 refine zT 3 ?_
 refine zT 4 ?_
 refine zT 5 ?_
 refine zT 6 ?_
 refine zT 7 ?_
 refine zT 8 ?_
 refine zT 9 ?_
 refine zT 10 ?_
 refine zR 11 ?_
 intro K hK
 go_simp
 go_at_call 61
 refine (HKEEP.out _ q0).mono ?_
 rintro e d1 ⟨vk, rfl, hkw⟩
 obtain ⟨Ak, ck, rfl, hck, hmk, hrk⟩ := own_form hkw.own
 have hkm := HM.out
 rw [hkm] at hck hrk ⊢
 have q1 := q0.trans hkw.quiet
 dsimp only
 refine hK.out _ _ ?_ (fun hHeld => ?_)
 ·exact HS8.out _ q1
 clear hK K
 (try simp only [Act.put, zPA, zPZ, zPS])
 refine zR 12 ?_
 intro K hK
 refine app_step elem_idx rfl (.tmp 21) (.tmp 32) rfl rfl (World.ownsRow_nil _ _ _ _) rfl hrk (one_idxs kl) (by have := HLK.out; unfold maxLen; omega) (by have := HLK.out; omega) ?_
 intro v3 d3 hg3
 have q3 : Quiet w2 d3 := q1.trans (hg3.only.mono (fun k _ e => by cases e))
 have hiw : IdxsW w d3 v3 kl := (IdxsW.start (HO.out.quiet.trans q1)).join (l := []) (by rw [hkm]; exact hg3)
 clear hg3
 refine hK.out _ _ ?_ (fun hHeld => ?_)
 ·exact HS8.out _ q3
 clear hK K
 (try simp only [Act.put, zPA, zPZ, zPS])
 refine zT 13 ?_
 refine wpAnyH_done (by kernel_rfl) ?_ _
 have HOB := Lib.hid ((HO.out.quietly q3))
 have HIW := Lib.hid hiw
 clear hHeld q0 q1 q3 hiw HS8 HKEEP
 go_wp2
 rw [rounds_succ]
 have HEND : Hid (POST (.returned (.tuple #[.slice (some ⟨b, 0, none⟩) 1 cap, v3])) d3) := by
  rw [<- HPOST.out]
  exact ⟨b, cap, A, c, v3, rfl, HOB.out, HIW.out⟩
 go_wp2
 exact HEND.out
set_option maxHeartbeats 4000000 in
theorem store_used {w : World} {sb : Nat} {o : Nat -> Nat} {s : St} {t : TE} {H : List (List (Option Tup))} (h : StoreAt w sb o s) (hT : s.T = [t]) (hI : s.I.length <= 1000) (hid : U64 t.id) (hH : s.hs t.id = some H) :
  Calls Tryz.prog 16 #[ptrV sb] w (IntsPost w [usedH H]) := by
 have HBK := Lib.hid (store_book h hT hI)
 obtain ⟨lb, bb, pb, mh, mt, ms, fh, ft, fs, h⟩ := h
 obtain ⟨_, _, _, c3, _⟩ := h.cells
 have lsb := cell_lt c3
 dsimp only at lsb
 obtain ⟨hb, hf, hp⟩ := h.heaps.2 t.id H hH
 have HH := Lib.hid h
 have HF := Lib.hid hf
 have HP := Lib.hid hp
 have HID := Lib.hid hid
 obtain ⟨un, hun⟩ : ∃ un, usedH H = un := ⟨_, rfl⟩
 have HUN := Lib.hid hun
 rw [hun]
 obtain ⟨POST, hPOST⟩ : ∃ POST, IntsPost w [un] = POST := ⟨_, rfl⟩
 rw [hPOST]
 have HPOST := Lib.hid hPOST
 clear h hf hp hid hPOST hun
 go_enter Tryz.func16, Tryz.ntmps16
 go_wp2_with fail
 refine HBK.out.mono ?_
 rintro e w1 ⟨b, cap, A, c, v, rfl, hO, _⟩
 obtain ⟨t0, t1, t2, t3, t4⟩ := hO.cells
 have lb1 := cell_lt t0
 dsimp only at lb1
 have hqa : Quiet w1 (w1.alloc (.cells #[.int .u64 (t.id : Int), .string t.name, .slice A t.cols.length c, .int .u64 (t.xmin : Int), .int .u64 (t.xmax : Int)] 83)) := (Only.refl _ _).alloc _
 have hba := alloc_new w1 (.cells #[.int .u64 (t.id : Int), .string t.name, .slice A t.cols.length c, .int .u64 (t.xmin : Int), .int .u64 (t.xmax : Int)] 83)
 obtain ⟨r7, hr7⟩ : ∃ r7, w1.heap.size = r7 := ⟨_, rfl⟩
 rw [hr7] at hba
 have HQ2 := Lib.hid (hO.quiet.trans hqa)
 have HBA := Lib.hid hba
 have HC := Lib.hid c3
 clear hO HBK hba c3
 go_wp2
 refine wp_loop_rounds 2 ?_
 rw [rounds_succ]
 go_wp2_with fail
 (try rw [hr7])
 generalize w1.alloc (.cells #[.int .u64 (t.id : Int), .string t.name, .slice A t.cols.length c, .int .u64 (t.xmin : Int), .int .u64 (t.xmax : Int)] 83) = w2 at *
 clear hqa hr7 t0 t1 t2 t3 t4 lb1
 have HS6 : Hid (∀ W, Quiet w2 W -> (fun w' => w'.cell? ⟨sb, 3, none⟩ = some (.map (some mh)) /\ w'.cell? ⟨r7, 0, none⟩ = some (.int .u64 (t.id : Int)) /\ (Instr.lookup 63 (.map (some mh)) (.int .u64 (t.id : Int)) false).run Tryz.prog w' = .ok (ptrV hb) w') W) := fun W hq => ⟨(HQ2.out.trans hq).cell HC.out (fun x => x), by rw [cell_of (hq.get HBA.out (fun x => x))]; rfl, look_heap (HH.out.mH.kept (HQ2.out.trans hq) (fun x => x)) HF.out HID.out⟩
 have HUSE : Hid (∀ W, Quiet w2 W -> Calls Tryz.prog 39 #[ptrV hb] W (fun e w' => e = .returned (.int .i64 (un : Int)) /\ Quiet W w')) := fun W hq => by
  refine (heap_used (HP.out.kept (HQ2.out.trans hq) (fun _ _ x => x))).mono ?_
  rintro e w' ⟨rfl, n, rfl⟩
  rw [HUN.out]
  exact ⟨rfl, (Only.refl _ _).drewN n⟩
 refine zH HS6 ((Only.refl _ _).drew) (fun hHeld => ?_)
 simp only [List.size_toArray, List.length_cons, List.length_nil, Nat.reduceAdd]
 have q0 : Quiet w2 w2.drew := (Only.refl _ _).drew
 generalize w2.drew = d0 at q0 hHeld ⊢
 refine zT 0 ?_
 refine zT 1 ?_
 refine zT 2 ?_
 refine zT 3 ?_
 refine zT 4 ?_
 refine zT 5 ?_
 refine zT 6 ?_
 refine zT 7 ?_
 refine zR 8 ?_
 intro K hK
 go_simp
 go_at_call 39
 refine (HUSE.out _ q0).mono ?_
 rintro e d1 ⟨rfl, hq1⟩
 have q1 := q0.trans hq1
 clear hq1
 dsimp only
 refine hK.out _ _ ?_ (fun hHeld => ?_)
 ·exact HS6.out _ q1
 clear hK K
 (try simp only [Act.put, zPA, zPZ, zPS])
 refine zR 9 ?_
 intro K hK
 go_simp
 refine hK.out _ _ ?_ (fun hHeld => ?_)
 ·exact HS6.out _ ((q1.alloc _))
 clear hK K
 (try simp only [Act.put, zPA, zPZ, zPS])
 have q2 : Quiet w2 (d1.alloc (.cells #[.int .i64 (un : Int)] 3)) := q1.alloc _
 have hrd := Rd.one d1 (.int .i64 (un : Int)) 3 (0, 0) (S := fun _ => True) trivial
 obtain ⟨bu, hbu⟩ : ∃ bu, d1.heap.size = bu := ⟨_, rfl⟩
 rw [hbu] at hrd
 (try rw [hbu])
 generalize d1.alloc (.cells #[.int .i64 (un : Int)] 3) = d2 at *
 clear hbu
 refine zR 10 ?_
 intro K hK
 refine app_step elem_intE rfl (.tmp 19) (.tmp 28) rfl rfl (World.ownsRow_nil _ _ _ _) rfl hrd (one_intE un) (by unfold maxLen; omega) (by omega) ?_
 intro v4 d4 hg4
 have q4 : Quiet w2 d4 := q2.trans (hg4.only.mono (fun k _ e => by cases e))
 have hiw : IntsW w2 d4 v4 [un] := (IntsW.start q2).push (l := []) hg4
 clear hg4 hrd
 refine hK.out _ _ ?_ (fun hHeld => ?_)
 ·exact HS6.out _ q4
 clear hK K
 (try simp only [Act.put, zPA, zPZ, zPS])
 refine zT 11 ?_
 refine wpAnyH_done (by kernel_rfl) ?_ _
 have HEND : Hid (POST (.returned v4) d4) := by
  rw [<- HPOST.out]
  exact ⟨v4, rfl, hiw.from HQ2.out⟩
 clear hHeld q0 q1 q2 q4 hiw HS6 HUSE
 go_wp2
 rw [rounds_succ]
 go_wp2
 exact HEND.out
set_option maxHeartbeats 4000000 in
theorem store_entries {w : World} {sb : Nat} {o : Nat -> Nat} {s : St} {t : TE} (h : StoreAt w sb o s) (hT : s.T = [t]) (hI : s.I.length <= 1000) (hid : U64 t.id) (hx : ∀ e ∈ keptI s.L t.id s.I, U64 e.id /\ ∃ es, s.ts e.id = some es) :
  Calls Tryz.prog 18 #[ptrV sb] w (IntsPost w ((keptI s.L t.id s.I).map (fun e => ((s.ts e.id).getD []).length))) := by
 have HBK := Lib.hid (store_book h hT hI)
 have HLK : Hid ((keptI s.L t.id s.I).length <= 1000) := Nat.le_trans (List.length_filter_le _ _) hI
 obtain ⟨lb, bb, pb, mh, mt, ms, fh, ft, fs, h⟩ := h
 obtain ⟨_, _, _, _, c4, _⟩ := h.cells
 have lsb := cell_lt c4
 dsimp only at lsb
 have HH := Lib.hid h
 have HX := Lib.hid hx
 obtain ⟨kl, hkl⟩ : ∃ kl, keptI s.L t.id s.I = kl := ⟨_, rfl⟩
 rw [hkl] at HBK HX HLK ⊢
 obtain ⟨m, hm⟩ : ∃ m, kl.length = m := ⟨_, rfl⟩
 rw [hm] at HLK
 have HM := Lib.hid hm
 have HC := Lib.hid c4
 obtain ⟨POST, hPOST⟩ : ∃ POST, IntsPost w (kl.map (fun e => ((s.ts e.id).getD []).length)) = POST := ⟨_, rfl⟩
 rw [hPOST]
 have HPOST := Lib.hid hPOST
 clear h hx hid hPOST hkl hm c4
 go_enter Tryz.func18, Tryz.ntmps18
 go_wp2_with fail
 refine HBK.out.mono ?_
 rintro e w1 ⟨b, cap, A, c, v, rfl, _, hW⟩
 obtain ⟨Ak, ck, rfl, hck, hmk, hrk⟩ := own_form hW.own
 have HQ1 := Lib.hid hW.quiet
 have HRK := Lib.hid hrk
 have hkm := HM.out
 rw [hkm] at hck ⊢
 unfold maxLen at hmk
 clear hW HBK hrk hkm
 go_wp2
 go_loopw [15, 3, 7] (fun i v _ wr => ∃ (k : Nat) (v' : Value), k <= m /\ i = .int .i64 (k : Int) /\ v = v' /\ IntsW w1 wr v' ((kl.take k).map (fun e => ((s.ts e.id).getD []).length))) (fun i _ _ _ => m - (intOf i).toNat)
 case atStart => exact ⟨0, _, Nat.zero_le _, rfl, rfl, IntsW.start (Only.refl _ _)⟩
 case round =>
  obtain ⟨k, v', hk, rfl, rfl, hW⟩ := hrel
  have HW := Lib.hid hW
  clear hW
  by_cases hlt : k < m
  ·obtain ⟨x, hx⟩ : ∃ x, kl[k]? = some x := ⟨_, List.getElem?_eq_getElem (by have := HM.out; omega)⟩
   obtain ⟨hxu, es, hes⟩ := HX.out x (List.mem_of_getElem? hx)
   obtain ⟨tb, hft, htr⟩ := HH.out.trees.2 x.id es hes
   have hrk := HRK.out.kept HW.out.quiet (fun _ _ x => x)
   obtain ⟨bk, ofk, rfl, _, hcc⟩ := hrk.cells (by rw [idxV_length]; have := HM.out; omega)
   obtain ⟨i0, i1, i2, i3, i4, i5⟩ := idxV_get kl k x hx
   have y0 := hcc _ _ i0
   have y1 := hcc _ _ i1
   have y2 := hcc _ _ i2
   have y3 := hcc _ _ i3
   have y4 := hcc _ _ i4
   have y5 := hcc _ _ i5
   rw [<- Nat.add_assoc] at y1 y2 y3 y4 y5
   have ly := cell_lt y0
   dsimp only at ly
   have HX1 := Lib.hid hx
   have HES := Lib.hid hes
   have HXU := Lib.hid hxu
   have HFT := Lib.hid hft
   have HTR := Lib.hid htr
   have hqa : Quiet wr (wr.alloc (.cells #[.int .u64 (x.id : Int), .string x.name, .int .u64 (x.table : Int), .int .i64 (x.column : Int), .int .u64 (x.xmin : Int), .int .u64 (x.xmax : Int)] 111)) := (Only.refl _ _).alloc _
   have hba := alloc_new wr (.cells #[.int .u64 (x.id : Int), .string x.name, .int .u64 (x.table : Int), .int .i64 (x.column : Int), .int .u64 (x.xmin : Int), .int .u64 (x.xmax : Int)] 111)
   obtain ⟨r7, hr7⟩ : ∃ r7, wr.heap.size = r7 := ⟨_, rfl⟩
   rw [hr7] at hba
   have HQ2 := Lib.hid ((HQ1.out.trans HW.out.quiet).trans hqa)
   have HON : Hid (∀ k, u3.ownBlock = some k -> w1.heap.size <= k /\ k < r7) := fun k e => ⟨HW.out.new k e, by rw [<- hr7]; exact (HW.out.own.lt k e).2⟩
   have HW2 := Lib.hid (HW.out.quietly hqa)
   have HBA := Lib.hid hba
   clear hx hes hxu hft htr hrk hcc i0 i1 i2 i3 i4 i5 hba
   go_wp2_with fail
   (try rw [hr7])
   generalize wr.alloc (.cells #[.int .u64 (x.id : Int), .string x.name, .int .u64 (x.table : Int), .int .i64 (x.column : Int), .int .u64 (x.xmin : Int), .int .u64 (x.xmax : Int)] 111) = w2 at *
   clear hqa hr7 y0 y1 y2 y3 y4 y5 ly
   have HS6 : Hid (∀ W, Only (fun k => u3.ownBlock = some k) w2 W -> (fun w' => w'.cell? ⟨sb, 4, none⟩ = some (.map (some mt)) /\ w'.cell? ⟨r7, 0, none⟩ = some (.int .u64 (x.id : Int)) /\ (Instr.lookup 64 (.map (some mt)) (.int .u64 (x.id : Int)) false).run Tryz.prog w' = .ok (ptrV tb) w') W) := fun W ho => by
    have hlt : ∀ k, k < w.heap.size -> ¬ (u3.ownBlock = some k) := fun k hk e => by
     have := (HON.out k e).1
     have := HQ1.out.size
     omega
    refine ⟨ho.cell (HQ2.out.cell HC.out (fun x => x)) (hlt sb lsb), by rw [cell_of (ho.get HBA.out (fun e => by have := (HON.out _ e).2; omega))]; rfl, look_tree ((HH.out.mT.kept HQ2.out (fun x => x)).kept ho (hlt mt HH.out.mT.lt)) HFT.out HXU.out⟩
   have HLEN : Hid (∀ W, Quiet w2 W -> Calls Tryz.prog 48 #[ptrV tb] W (fun e w' => e = .returned (.int .i64 (es.length : Int)) /\ W = w')) := fun W hq => tree_len (HTR.out.kept (HQ2.out.trans hq) (fun _ _ x => x))
   have HTK : Hid ((kl.take (k + 1)).map (fun e => ((s.ts e.id).getD []).length) = (kl.take k).map (fun e => ((s.ts e.id).getD []).length) ++ [es.length]) := by
    show _ = _
    rw [List.take_add_one, HX1.out, Option.toList_some, List.map_append]
    simp [HES.out]
   obtain ⟨un, hun⟩ : ∃ un, es.length = un := ⟨_, rfl⟩
   rw [hun] at HLEN HTK
   have HLL : Hid (((kl.take k).map (fun e => ((s.ts e.id).getD []).length)).length <= 1000) := by
    unfold Hid
    rw [List.length_map, List.length_take]
    have := HLK.out
    omega
   clear hun
   generalize (kl.take k).map (fun e => ((s.ts e.id).getD []).length) = pl at HW2 HTK HLL
   refine zH HS6 ((Only.refl _ _).drew) (fun hHeld => ?_)
   simp only [List.size_toArray, List.length_cons, List.length_nil, Nat.reduceAdd]
   have q0 : Quiet w2 w2.drew := (Only.refl _ _).drew
   generalize w2.drew = d0 at q0 hHeld ⊢
   refine zT 0 ?_
   refine zT 1 ?_
   refine zT 2 ?_
   refine zT 3 ?_
   refine zT 4 ?_
   refine zT 5 ?_
   refine zT 6 ?_
   refine zT 7 ?_
   refine zR 8 ?_
   intro K hK
   go_simp
   go_at_call 48
   refine (HLEN.out _ q0).mono ?_
   rintro e d1 ⟨rfl, rfl⟩
   have q1 := q0
   dsimp only
   refine hK.out _ _ ?_ (fun hHeld => ?_)
   ·exact HS6.out _ (q1.mono (fun _ _ x => x.elim))
   clear hK K
   (try simp only [Act.put, zPA, zPZ, zPS])
   refine zR 9 ?_
   intro K hK
   go_simp
   refine hK.out _ _ ?_ (fun hHeld => ?_)
   ·exact HS6.out _ ((q1.alloc _).mono (fun _ _ x => x.elim))
   clear hK K
   (try simp only [Act.put, zPA, zPZ, zPS])
   have q2 : Quiet w2 (d0.alloc (.cells #[.int .i64 (un : Int)] 3)) := q1.alloc _
   have hrd := Rd.one d0 (.int .i64 (un : Int)) 3 (0, 0) (S := fun _ => True) trivial
   obtain ⟨bu, hbu⟩ : ∃ bu, d0.heap.size = bu := ⟨_, rfl⟩
   rw [hbu] at hrd
   (try rw [hbu])
   generalize d0.alloc (.cells #[.int .i64 (un : Int)] 3) = d2 at *
   clear hbu
   refine zR 10 ?_
   intro K hK
   refine app_step elem_intE rfl (.tmp 19) (.tmp 28) rfl rfl (HW2.out.quietly q2).own rfl hrd (one_intE un) (by have := HLL.out; unfold maxLen; omega) (by have := HLL.out; omega) ?_
   intro v4 d4 hg4
   have hiw := (HW2.out.quietly q2).push hg4
   have q4 : Quiet w1 d4 := hiw.quiet
   have ho4 := (q2.mono (T := fun k => u3.ownBlock = some k) (fun _ _ x => x.elim)).trans hg4.only
   clear hg4 hrd
   refine hK.out _ _ ?_ (fun hHeld => ?_)
   ·exact HS6.out _ ho4
   clear hK K
   (try simp only [Act.put, zPA, zPZ, zPS])
   refine zT 11 ?_
   refine wpAnyH_done (by kernel_rfl) ?_ _
   rw [<- HTK.out] at hiw
   have HIW := Lib.hid hiw
   clear hHeld q0 q1 q2 q4 hiw HS6 HLEN HW HW2
   go_wp2
   go_roundw
   case rel => exact ⟨k + 1, _, by omega, by go_num, rfl, HIW.out⟩
   case measure => simp [intOf]; omega
  ·obtain rfl : k = m := by omega
   have HEND : Hid (POST (.returned u3) wr) := by
    rw [<- HPOST.out]
    have := HW.out
    rw [List.take_of_length_le (by have := HM.out; omega)] at this
    exact ⟨u3, rfl, this.from HQ1.out⟩
   go_wp2
   exact HEND.out
section
variable {k i : Nat} {free : Bool} {s : St} {L : List Nat} {T : List (Option Tup)} {xm : Nat} {p q : Int} {sn : Nat -> Option Snap}
end
structure OneRow (w wr : World) (v : Value) (id : Nat) (pg sl : Int) (n b c b2 c2 : Nat) : Prop where
 form : v = .slice (some ⟨b, 0, none⟩) 1 c
 quiet : Quiet w wr
 nb : w.heap.size <= b /\ b < wr.heap.size
 nb2 : w.heap.size <= b2 /\ b2 < wr.heap.size
 c0 : wr.cell? ⟨b, 0, none⟩ = some (.int .u64 (id : Int))
 c1 : wr.cell? ⟨b, 1, none⟩ = some (.int .i64 pg)
 c2' : wr.cell? ⟨b, 2, none⟩ = some (.int .i64 sl)
 c3 : wr.cell? ⟨b, 3, none⟩ = some (.slice (some ⟨b2, 0, none⟩) 1 c2)
 cv : wr.cell? ⟨b2, 1, none⟩ = some (.int .i64 (n : Int))
theorem RowsW.one {w wr : World} {v : Value} {M : List RowM} {id : Nat} {pg sl : Int} {n : Nat} (h : RowsW w wr v M) (hp : (M.map RowM.told).Perm [(id, pg, sl, n)]) : ∃ b c b2 c2, OneRow w wr v id pg sl n b c b2 c2 := by
 have hm := List.perm_singleton.1 hp
 rcases M with _ | ⟨m, _ | ⟨m2, M⟩⟩
 ·cases hm
 rotate_left 1
 ·cases hm
 injection hm with hm _
 obtain ⟨i, p, s, k, A, c'⟩ := m
 injection hm with e1 hm
 injection hm with e2 hm
 injection hm with e3 e4
 subst e1 e2 e3 e4
 have hown := h.own
 rcases owns_cases hown with ⟨_, e⟩ | ⟨b, c, rfl, _, _⟩
 ·cases e
 obtain ⟨hn, hv⟩ := h.vals _ (List.mem_singleton_self _)
 rcases owns_cases hv with ⟨_, e⟩ | ⟨b2, c2, e, _, _⟩
 ·cases e
 injection e with eA _ ec
 dsimp only at eA ec
 subst eA
 first | subst ec | skip
 obtain ⟨cb, hcb⟩ := own_blk hown (k := b) rfl
 obtain ⟨cb2, hcb2⟩ := own_blk hv (k := b2) rfl
 have k0 := hown.cells (by rfl) 0 (.int .u64 (i : Int)) rfl
 have k1 := hown.cells (by rfl) 1 (.int .i64 p) rfl
 have k2 := hown.cells (by rfl) 2 (.int .i64 s) rfl
 have k3 := hown.cells (by rfl) 3 (.slice (some ⟨b2, 0, none⟩) 1 c') rfl
 have kv := hv.cells (by rfl) 1 (.int .i64 (k : Int)) rfl
 exact ⟨b, c, b2, c', rfl, h.quiet, ⟨h.new b rfl, lt_of_get hcb⟩, ⟨hn b2 rfl, lt_of_get hcb2⟩, k0, k1, k2, k3, kv⟩
theorem OneRow.kept {w wr wn : World} {v : Value} {id n b c b2 c2 : Nat} {pg sl : Int} {S : Nat -> Prop} (h : OneRow w wr v id pg sl n b c b2 c2) (ho : Only S wr wn) (h1 : ¬ S b) (h2 : ¬ S b2) :
  wn.cell? ⟨b, 0, none⟩ = some (.int .u64 (id : Int)) /\ wn.cell? ⟨b, 1, none⟩ = some (.int .i64 pg) /\ wn.cell? ⟨b, 2, none⟩ = some (.int .i64 sl) /\ wn.cell? ⟨b, 3, none⟩ = some (.slice (some ⟨b2, 0, none⟩) 1 c2) /\ wn.cell? ⟨b2, 1, none⟩ = some (.int .i64 (n : Int)) :=
 ⟨ho.cell h.c0 h1, ho.cell h.c1 h1, ho.cell h.c2' h1, ho.cell h.c3 h1, ho.cell h.cv h2⟩
def t7 : Tup := ⟨1, 1, 0, -1, -1, rowI 7⟩
theorem int_one {T : List (Option Tup)} (h : ∀ s ∈ T, ∃ v, s = some v /\ U64 v.xmin /\ U64 v.xmax /\ ∃ n, n < 256 /\ v.data = rowI n) : IntHeap [T] := by
 intro pg sl v hv
 unfold hGet at hv
 split at hv
 ·cases hv
 ·unfold tupAt at hv
  split at hv
  ·cases hv
  ·rcases hp : pg.toNat with _ | k
   ·rw [hp] at hv
    have e : ([T] : List (List (Option Tup))).getD 0 [] = T := rfl
    rw [e] at hv
    cases hx : T[sl.toNat]? with
    | none => rw [hx] at hv; cases hv
    | some u =>
     rw [hx] at hv
     obtain ⟨v', rfl, h1, h2, h3⟩ := h u (List.mem_of_getElem? hx)
     have : v' = v := by simpa using hv
     subst this
     exact ⟨h1, h2, h3⟩
   ·rw [hp] at hv
    have e : ([T] : List (List (Option Tup))).getD (k + 1) [] = [] := rfl
    rw [e] at hv
    simp at hv
theorem places_small {T : List (Option Tup)} (h : T.length <= 1000000) : ∀ k, k <= [T].length -> (placesH [T] k).length <= 1000000 := by
 intro k hk
 have hl : ∀ (p : Int) (m : Nat), (placesTo p T m).length <= m := fun p m => by
  unfold placesTo
  have := List.length_filterMap_le (fun s : Nat => if ((T[s]?).join).isSome then some (p, (s : Int)) else none) (List.range m)
  simpa using this
 rcases k with _ | _ | k
 ·exact Nat.zero_le _
 ·show ([] ++ placesTo ((0 : Nat) : Int) T T.length).length <= 1000000
  rw [List.nil_append]
  exact Nat.le_trans (hl _ _) h
 ·simp at hk
theorem small_t : Small ⟨#[116]⟩ := ⟨by decide, by decide, fun i h => by
  obtain rfl : i = 0 := by have : i < 1 := h; omega
  decide +revert⟩
theorem small_a : Small ⟨#[97]⟩ := ⟨by decide, by decide, fun i h => by
  obtain rfl : i = 0 := by have : i < 1 := h; omega
  decide +revert⟩
section
variable {w0 wr w1 w3 w4 : World} {v v' : Value} {M : List RowM} {sb : Nat} {s s' : St}
theorem rowsV_get : ∀ (M : List RowM) (i : Nat) (m : RowM), M[i]? = some m -> (rowsV M)[i * 4]? = some (.int .u64 (m.id : Int)) /\ (rowsV M)[i * 4 + 1]? = some (.int .i64 m.pg) /\ (rowsV M)[i * 4 + 2]? = some (.int .i64 m.sl) /\ (rowsV M)[i * 4 + 3]? = some (.slice m.A 1 m.c)
 | [], i, m, h => by simp at h
 | x :: M, 0, m, h => by
  simp at h
  subst h
  exact ⟨rfl, rfl, rfl, rfl⟩
 | x :: M, i + 1, m, h => by
  have ih := rowsV_get M i m (by simpa using h)
  have e : rowsV (x :: M) = .int .u64 (x.id : Int) :: .int .i64 x.pg :: .int .i64 x.sl :: .slice x.A 1 x.c :: rowsV M := rfl
  rw [e, show (i + 1) * 4 = i * 4 + 1 + 1 + 1 + 1 by omega]
  exact ih
end
structure BrAt (w : World) (rb sb : Nat) (under : Bool) (vj : Value) (ps : Nat) : Prop where
 box : w.heap[rb]? = some (.cells #[ptrV sb, .bool under, vj, .int .i64 (ps : Int)] 70 (0, 0))
theorem BrAt.cells {w : World} {rb sb ps : Nat} {under : Bool} {vj : Value} (h : BrAt w rb sb under vj ps) : w.cell? ⟨rb, 0, none⟩ = some (ptrV sb) /\ w.cell? ⟨rb, 1, none⟩ = some (.bool under) /\ w.cell? ⟨rb, 2, none⟩ = some vj /\ w.cell? ⟨rb, 3, none⟩ = some (.int .i64 (ps : Int)) :=
 ⟨by rw [cell_of h.box]; rfl, by rw [cell_of h.box]; rfl, by rw [cell_of h.box]; rfl, by rw [cell_of h.box]; rfl⟩
structure JobAt (w : World) (jb tid pages page index : Nat) (known : Bool) (vi vd : Value) : Prop where
 box : w.heap[jb]? = some (.cells #[.int .u64 (tid : Int), .int .i64 (pages : Int), vi, .bool known, .int .i64 (page : Int), .int .i64 (index : Int), vd] 170 (0, 0))
structure BaseW where
 w : World
 X : Nat -> Prop
 at_ : World
def LawB (B : BaseW) (w : World) (sb : Nat) (K : Nat -> Prop) (s : St) : Prop :=
 LawSt B.w w sb (fun k => K k ∨ B.X k) s /\ (∀ k x, B.X k -> B.at_.heap[k]? = some x -> w.heap[k]? = some x) /\ ∀ k, K k -> ¬ B.X k
def ToB (B : BaseW) (w : World) (sb : Nat) (K : Nat -> Prop) (s' : St) (w' : World) : Prop := LawB B w' sb K s' /\ Only (fun k => B.w.heap.size <= k /\ ¬ K k) w w'
section
variable {B : BaseW} {w w' : World} {sb : Nat} {K K' : Nat -> Prop} {s s' : St}
theorem ToB.st (h : ToB B w sb K s w') : LawB B w' sb K s := h.1
theorem LawB.mono (h : LawB B w sb K s) (hk : ∀ k, K' k -> K k) : LawB B w sb K' s := ⟨h.1.mono (fun k e => e.imp (hk k) id), h.2.1, fun k e => h.2.2 k (hk k e)⟩
theorem LawB.quietly (h : LawB B w sb K s) (hq : Quiet w w') : LawB B w' sb (fun k => K k ∨ (w.heap.size <= k /\ k < w'.heap.size)) s := by
 refine ⟨(h.1.quietly hq).mono (fun k e => ?_), fun k x a b => hq.get (h.2.1 k x a b) (fun y => y), fun k e => ?_⟩
 ·rcases e with (e | e) | e
  ·exact Or.inl (Or.inl e)
  ·exact Or.inr e
  ·exact Or.inl (Or.inr e)
 ·rcases e with e | e
  ·exact h.2.2 k e
  ·exact fun y => by have := h.1.lt (Or.inr y : K k ∨ B.X k); omega
theorem LawB.same (h : LawB B w sb K s) (hq : Quiet w w') : LawB B w' sb K s := (h.quietly hq).mono (fun _ x => Or.inl x)
theorem LawB.quiet (h : LawB B w sb K s) : Quiet B.w w := h.1.quiet
theorem LawB.lt (h : LawB B w sb K s) {k : Nat} (hk : K k) : k < w.heap.size := h.1.lt (Or.inl hk : K k ∨ B.X k)
theorem LawB.law (h : LawB B w sb K s) : LawSt B.w w sb K s := h.1.mono (fun _ e => Or.inl e)
theorem LawB.turnTo (h : LawB B w sb K s) (ho : Only K w w') (hK : ∀ k, K k -> B.w.heap.size <= k) (hK' : ∀ k, K' k -> K k ∨ (w.heap.size <= k /\ k < w'.heap.size)) : LawB B w' sb K' s := by
 obtain ⟨o, h1, h2, h3, h4⟩ := h.1
 have hz := ho.size
 refine ⟨⟨o, h1.kept ho (fun k x => (h4 k (Or.inl x)).1), h2.trans' ho (fun k hk x => by have := hK k x; omega), h3, fun k x => ?_⟩, fun k x a b => ho.get (h.2.1 k x a b) (fun y => h.2.2 k y a), fun k e => ?_⟩
 ·rcases x with x | x
  ·rcases hK' k x with y | y
   ·exact ⟨(h4 k (Or.inl y)).1, Nat.lt_of_lt_of_le (h4 k (Or.inl y)).2 hz⟩
   ·exact ⟨h1.big k y.1, y.2⟩
  ·exact ⟨(h4 k (Or.inr x)).1, Nat.lt_of_lt_of_le (h4 k (Or.inr x)).2 hz⟩
 ·rcases hK' k e with y | y
  ·exact h.2.2 k y
  ·exact fun z => by have := (h4 k (Or.inr z)).2; omega
theorem LawB.turn (h : LawB B w sb K s) (ho : Only K w w') (hK : ∀ k, K k -> B.w.heap.size <= k) : LawB B w' sb K s := h.turnTo ho hK (fun _ e => Or.inl e)
theorem LawB.call (h : LawB B w sb K s) (ht : LawTo B.w w sb (fun k => K k ∨ B.X k) s' w') : ToB B w sb K s' w' :=
 ⟨⟨ht.st, fun k x a b => ht.2.get (h.2.1 k x a b) (fun y => y.2 (Or.inr a)), h.2.2⟩, ht.2.mono (fun k _ e => ⟨e.1, fun y => e.2 (Or.inl y)⟩)⟩
theorem LawB.start {w0 : World} (h : LawSt w0 w sb K s) : LawB ⟨w0, fun _ => False, w⟩ w sb K s := ⟨h.mono (fun k e => by rcases e with e | e; exact e; exact e.elim), (fun k x a => a.elim), fun k _ a => a⟩
end
def BrIdle (w0 : BaseW) (w : World) (sb rb ps : Nat) (s : St) : Prop := ∃ vj, LawB w0 w sb (· = rb) s /\ BrAt w rb sb false vj ps /\ w0.w.heap.size <= rb
def BrDone (w0 : BaseW) (w : World) (sb rb ps : Nat) (s : St) : Prop := ∃ A c, LawB w0 w sb (· = rb) s /\ BrAt w rb sb true (.slice A 0 c) ps /\ w0.w.heap.size <= rb /\ c <= maxLen
def BrK (rb jr jb : Nat) (vi vd : Value) (k : Nat) : Prop := k = rb ∨ k = jr ∨ k = jb ∨ vi.ownBlock = some k ∨ vd.ownBlock = some k
structure BrJobAt (w0 : BaseW) (w : World) (sb rb ps : Nat) (s : St) (tid n k i : Nat) (known : Bool) (ids : List Nat) (D : List (Int × Int)) (jr jb cj : Nat) (vi vd : Value) : Prop where
 law : LawB w0 w sb (BrK rb jr jb vi vd) s
 br : BrAt w rb sb true (.slice (some ⟨jr, 0, none⟩) 1 cj) ps
 row : ∃ cs : List Value, w.heap[jr]? = some (.cells (ptrV jb :: cs).toArray 168 (0, 0))
 job : JobAt w jb tid n k i known vi vd
 idx : w.ownsRow 0 29 1 vi ids.length (u64sV ids)
 dead : w.ownsRow 0 43 2 vd D.length (tidsV D)
 new : ∀ k, BrK rb jr jb vi vd k -> w0.w.heap.size <= k
 cap : 1 <= cj /\ cj <= maxLen
def BrJob (w0 : BaseW) (w : World) (sb rb ps : Nat) (s : St) (tid n k i : Nat) (known : Bool) (ids : List Nat) (D : List (Int × Int)) : Prop := ∃ jr jb cj vi vd, BrJobAt w0 w sb rb ps s tid n k i known ids D jr jb cj vi vd
def EvKind (z : Int) (e : Ending) : Prop := ∃ a b c, e = .returned (.agg #[.int .i64 z, a, b, c])
theorem info_event : (Tryz.prog.info? 103).map (·.size) = some 4 := by kernel_rfl
set_option maxHeartbeats 400000 in
theorem broom_new {w0 : BaseW} {w : World} {sb : Nat} {s : St} (h : LawB w0 w sb (fun _ => False) s) :
  Calls Tryz.prog 6 #[ptrV sb] w (fun e w' => ∃ rb, e = .returned (ptrV rb) /\ BrIdle w0 w' sb rb 0 s) := by
 have hq : Quiet w (w.alloc (.cells #[ptrV sb, .bool false, .slice none 0 0, .int .i64 0] 70)) := (Only.refl _ _).alloc _
 have HX : Hid (BrIdle w0 (w.alloc (.cells #[ptrV sb, .bool false, .slice none 0 0, .int .i64 0] 70)) sb w.heap.size 0 s) :=
  ⟨.slice none 0 0, (h.quietly hq).mono (fun k e => Or.inr ⟨by rw [e]; exact Nat.le_refl _, by rw [e]; simp⟩), ⟨alloc_new _ _⟩, h.quiet.size⟩
 clear h hq
 go_enter Tryz.func6, Tryz.ntmps6
 go_wp2
 go_ret
 exact ⟨_, rfl, HX.out⟩
set_option maxHeartbeats 2000000 in
theorem step_end {w0 : BaseW} {w : World} {sb rb ps : Nat} {s : St} (h : BrDone w0 w sb rb ps s) (hp : ps < 1000000) :
  Calls Tryz.prog 37 #[ptrV rb] w (fun e w' => EvKind 4 e /\ BrIdle w0 w' sb rb (ps + 1) s) := by
 obtain ⟨A, c, hl, hb, hr, hc⟩ := h
 obtain ⟨POST, hPOST⟩ : ∃ POST : Ending -> World -> Prop, (fun e w' => EvKind 4 e /\ BrIdle w0 w' sb rb (ps + 1) s) = POST := ⟨_, rfl⟩
 rw [hPOST]
 have HPOST := Lib.hid hPOST
 have HL := Lib.hid hl
 have HB := Lib.hid hb
 have HR := Lib.hid hr
 have hq : Quiet w (w.alloc (.cells #[.int .i64 0, .int .u64 0, .int .u64 0, .int .i64 0] 103)) := (Only.refl _ _).alloc _
 have h2 := alloc_new w (.cells #[.int .i64 0, .int .u64 0, .int .u64 0, .int .i64 0] 103)
 obtain ⟨r2, hr2⟩ : ∃ r2, w.heap.size = r2 := ⟨_, rfl⟩
 rw [hr2] at h2
 have HR2 := Lib.hid hr2
 unfold maxLen at hc
 clear hPOST hl hr
 go_enter Tryz.func37, Tryz.ntmps37
 go_upto_block 0 with (fail)
 (try rw [hr2])
 generalize w.alloc (.cells #[.int .i64 0, .int .u64 0, .int .u64 0, .int .i64 0] 103) = w1 at *
 have hb1 := hq.get hb.box (fun x => x)
 have b0 := cell_of hb1 0
 have b1 := cell_of hb1 1
 have b2 := cell_of hb1 2
 have b3 := cell_of hb1 3
 have bf := fun o => frozen_of hb1 o
 have e0 := cell_of h2 0
 have e1 := cell_of h2 1
 have e2 := cell_of h2 2
 have e3 := cell_of h2 3
 have ef := fun o => frozen_of h2 o
 simp only [zGA, zGS, zGZ] at b0 b1 b2 b3 e0 e1 e2 e3
 have hlb := lt_of_get hb1
 have hl2 := lt_of_get h2
 have hbl := lt_of_get HB.out.box
 have hne : ¬ rb = r2 := by omega
 have hne2 : ¬ r2 = rb := by omega
 have hw : IntKind.i64.wrap ((ps : Int) + 1) = (ps : Int) + 1 := wrap_i64_of _ (by omega) (by omega)
 have HB3 : Hid (((w1.setCell ⟨rb, 1, none⟩ (.bool false)).setCell ⟨rb, 3, none⟩ (.int .i64 ((ps : Int) + 1))).heap[rb]? = some (.cells #[ptrV sb, .bool false, .slice A 0 c, .int .i64 ((ps : Int) + 1)] 70 (0, 0))) := by
  show _ = _
  rw [set_same (set_same hb1 _ _) _ _]
  rfl
 have ho3 : Only (· = rb) w1 ((w1.setCell ⟨rb, 1, none⟩ (.bool false)).setCell ⟨rb, 3, none⟩ (.int .i64 ((ps : Int) + 1))) := ((Only.refl (· = rb) w1).setCell (p := ⟨rb, 1, none⟩) (fun _ => rfl) _).setCell (p := ⟨rb, 3, none⟩) (fun _ => rfl) _
 have h23 := ho3.get h2 hne2
 have HX := Lib.hid (fourSet_same h23 (.int .i64 4) (.int .u64 0) (.int .u64 0) (.int .i64 0))
 have HEND : Hid (POST (.returned (.agg #[.int .i64 4, .int .u64 0, .int .u64 0, .int .i64 0])) (fourSet ((w1.setCell ⟨rb, 1, none⟩ (.bool false)).setCell ⟨rb, 3, none⟩ (.int .i64 ((ps : Int) + 1))) r2 (.int .i64 4) (.int .u64 0) (.int .u64 0) (.int .i64 0))) := by
  rw [<- HPOST.out]
  have ho4 := fourSet_only ((w1.setCell ⟨rb, 1, none⟩ (.bool false)).setCell ⟨rb, 3, none⟩ (.int .i64 ((ps : Int) + 1))) r2 (.int .i64 4) (.int .u64 0) (.int .u64 0) (.int .i64 0)
  have hr2' := HR2.out
  have ho : Only (· = rb) w (fourSet ((w1.setCell ⟨rb, 1, none⟩ (.bool false)).setCell ⟨rb, 3, none⟩ (.int .i64 ((ps : Int) + 1))) r2 (.int .i64 4) (.int .u64 0) (.int .u64 0) (.int .i64 0)) := ((hq.mono (fun _ _ x => x.elim)).trans ho3).trans' ho4 (fun k hk e => by have e' : k = r2 := e; omega)
  refine ⟨⟨_, _, _, rfl⟩, .slice A 0 c, HL.out.turn ho (fun k e => by have e' : k = rb := e; rw [e']; exact HR.out), ⟨?_⟩, HR.out⟩
  exact ho4.get HB3.out hne
 unfold fourSet at HX HEND
 clear ho3 h23 hb1 h2 hq
 go_wp2
 exact bodyPost_ret (results_cellS Tryz.results37 _ _ r2 _ _ (0, 0) _ (by rfl) HX.out Tryz.underlying103 rfl info_event) (by rfl) HEND.out
structure Swept (L : List Nat) (hz : Nat) (H H' : List (List (Option Tup))) (l : List (Int × Int)) : Prop where
 get : ∀ p s, hGet H' p s = if (p, s) ∈ l /\ deadA L H hz (p, s) = true then none else hGet H p s
 used : usedH H' + (l.filter (deadA L H hz)).length = usedH H
 fit : ∀ T ∈ H', Fits T
 len : H'.length = H.length
theorem relH_swept {L : List Nat} {hz : Nat} {H : List (List (Option Tup))} (hfit : ∀ T ∈ H, Fits T) (l : List (Int × Int)) : l.Nodup -> Swept L hz H (relH L hz H l) l := by
 refine ent_rev (P := fun l => l.Nodup -> Swept L hz H (relH L hz H l) l) ?_ ?_ l
 ·exact fun _ => ⟨fun p s => by rw [if_neg (fun x => by cases x.1)]; rfl, rfl, hfit, rfl⟩
 ·intro l a ih hn
  obtain ⟨n1, _, n2⟩ := List.nodup_append.1 hn
  have hi := ih n1
  have ha : a ∉ l := fun x => n2 _ x a (by simp) rfl
  have hga : hGet (relH L hz H l) a.1 a.2 = hGet H a.1 a.2 := by
   rw [hi.get, if_neg (fun x => ha x.1)]
  have hda : deadA L (relH L hz H l) hz a = deadA L H hz a := by
   unfold deadA
   rw [hga]
  rw [relH_snoc, hda]
  cases hd : deadA L H hz a with
  | false =>
   rw [if_neg (by decide)]
   refine ⟨fun p s => ?_, ?_, hi.fit, hi.len⟩
   ·rw [hi.get]
    by_cases e : (p, s) = a
    ·rw [e]
     rw [if_neg (fun x => ha x.1), if_neg (fun x => by rw [hd] at x; cases x.2)]
    ·by_cases e2 : (p, s) ∈ l /\ deadA L H hz (p, s) = true
     ·rw [if_pos e2, if_pos ⟨List.mem_append_left _ e2.1, e2.2⟩]
     ·rw [if_neg e2, if_neg (fun x => e2 ⟨by
         rcases List.mem_append.1 x.1 with y | y
         · exact y
         · exact absurd (by simpa using y) e, x.2⟩)]
   ·rw [List.filter_append]
    simp only [List.filter_cons, hd, List.filter_nil]
    simpa using hi.used
  | true =>
   rw [if_pos rfl]
   obtain ⟨v, hv⟩ : ∃ v, hGet H a.1 a.2 = some v := by
    unfold deadA at hd
    cases e : hGet H a.1 a.2 with
    | none => rw [e] at hd; cases hd
    | some v => exact ⟨v, rfl⟩
   obtain ⟨H', h1, h2⟩ := hFree_goes hi.fit (hga.trans hv)
   rw [h1]
   refine ⟨fun p s => ?_, ?_, h2.fit, by rw [h2.len, hi.len]⟩
   ·show hGet H' p s = _
    rw [h2.get, hi.get]
    by_cases e : p = a.1 /\ s = a.2
    ·have e' : (p, s) = a := Prod.ext e.1 e.2
     rw [if_pos e, if_pos ⟨by rw [e']; simp, by rw [e']; exact hd⟩]
    ·rw [if_neg e]
     by_cases e2 : (p, s) ∈ l /\ deadA L H hz (p, s) = true
     ·rw [if_pos e2, if_pos ⟨List.mem_append_left _ e2.1, e2.2⟩]
     ·rw [if_neg e2, if_neg (fun x => e2 ⟨by
         rcases List.mem_append.1 x.1 with y | y
         · exact y
         · have y' : (p, s) = a := by simpa using y
           exact absurd ⟨congrArg Prod.fst y', congrArg Prod.snd y'⟩ e, x.2⟩)]
   ·show usedH H' + _ = _
    have h3 := h2.used
    have h4 := hi.used
    rw [List.filter_append, List.length_append]
    simp only [List.filter_cons, hd, List.filter_nil]
    show usedH H' + ((l.filter (deadA L H hz)).length + 1) = _
    omega
def RelPost (w : World) (sb : Nat) (o : Nat -> Nat) (s : St) (id hz : Nat) (H : List (List (Option Tup))) (ps : List (Int × Int)) (e : Ending) (w' : World) : Prop :=
 (∃ z : Int, e = .returned (.int .i64 z)) /\ StepTo w sb o { s with hs := upd s.hs id (some (relH s.L hz H ps)) } w'
set_option maxHeartbeats 4000000 in
theorem store_release {w : World} {sb id hz N n c : Nat} {o : Nat -> Nat} {s : St} {H : List (List (Option Tup))} {ps : List (Int × Int)} {A : Option Addr} {Sv : Nat -> Prop} (h : StoreAt w sb o s) (hid : U64 id) (hH : s.hs id = some H) (hfit : ∀ T ∈ H, Fits T) (hnum : NumHeap H) (hr : Rd w Sv 2 A n (tidsV ps)) (hS : ∀ k, Sv k -> o k = 0) (hpl : ps.length = n) (hc : n <= c) (hm : c <= maxLen) (hnd : ps.Nodup) (hg : ∀ a ∈ ps, ∃ v, hGet H a.1 a.2 = some v)
  (hh : HorSt s hz) (hL : s.L.length < 1000000000) (hN : ∀ x y, s.sn x = some y -> x <= N) (hN2 : N <= 2000000) :
  Calls Tryz.prog 79 #[ptrV sb, .int .u64 (id : Int), .slice A n c] w (RelPost w sb o s id hz H ps) := by
 obtain ⟨lb, bb, pb, mh, mt, ms, fh, ft, fs, h⟩ := h
 obtain ⟨hb, hfh, _⟩ := h.heaps.2 id H hH
 have HH := Lib.hid h
 have HF := Lib.hid hfh
 have HID := Lib.hid hid
 have HHH := Lib.hid hH
 have HFIT := Lib.hid hfit
 have HNUM := Lib.hid hnum
 have HLD := Lib.hid (rd_limS hr)
 have HSV := Lib.hid hS
 have HPL := Lib.hid hpl
 have HND := Lib.hid hnd
 have HG := Lib.hid hg
 have HHZ := Lib.hid hh
 have HNN := Lib.hid (And.intro hL (And.intro hN hN2))
 have hH0 : ({ s with hs := upd s.hs id (some (relH s.L hz H (ps.take 0))) } : St) = s := by
  have : upd s.hs id (some H) = s.hs := by
   funext k
   by_cases e : k = id
   ·rw [e]; simp [upd, hH]
   ·simp [upd, e]
  show ({ s with hs := upd s.hs id (some H) } : St) = s
  rw [this]
 have HST0 : Hid (StoreRow w sb o { s with hs := upd s.hs id (some (relH s.L hz H (ps.take 0))) } lb bb pb mh mt ms fh ft fs) := by rw [hH0]; exact h
 obtain ⟨POST, hPOST⟩ : ∃ POST, RelPost w sb o s id hz H ps = POST := ⟨_, rfl⟩
 rw [hPOST]
 have HPOST := Lib.hid hPOST
 unfold maxLen at hm
 clear h hfh hid hH hfit hnum hr hS hpl hnd hg hh hL hN hN2 hPOST hH0
 go_enter Tryz.func79, Tryz.ntmps79
 go_wp2
 go_loopw [14, 7, 9] (fun i v _ wr => ∃ (k m : Nat) (o' : Nat -> Nat), k <= n /\ i = .int .i64 (k : Int) /\ m <= k /\ v = .int .i64 (m : Int) /\ StoreRow wr sb o' { s with hs := upd s.hs id (some (relH s.L hz H (ps.take k))) } lb bb pb mh mt ms fh ft fs /\ (∀ j, j < w.heap.size -> o' j = o j) /\ Only (fun j => o j = 10 + 2 * id) w wr) (fun i _ _ _ => n - (intOf i).toNat)
 case atStart => exact ⟨0, 0, o, Nat.zero_le _, rfl, Nat.le_refl _, rfl, HST0.out, fun _ _ => rfl, Only.refl _ _⟩
 case round =>
  obtain ⟨k, m, o', hk, rfl, hmk, rfl, hR, hO, hT⟩ := hrel
  have HR := Lib.hid hR
  have HO := Lib.hid hO
  have HT := Lib.hid hT
  clear hR hO hT
  by_cases hlt : k < n
  ·obtain ⟨⟨pg, sl⟩, ha⟩ : ∃ a, ps[k]? = some a := ⟨_, List.getElem?_eq_getElem (by have := HPL.out; omega)⟩
   obtain ⟨v, hgv0⟩ := HG.out (pg, sl) (List.mem_of_getElem? ha)
   have hnk : (pg, sl) ∉ ps.take k := fun x => by
    obtain ⟨j, hj⟩ := List.mem_iff_getElem?.1 x
    have hjk : j < k := by
     have := (List.getElem?_eq_some_iff.1 hj).1
     rw [List.length_take] at this
     omega
    rw [List.getElem?_take_of_lt hjk] at hj
    have := (List.getElem?_inj (List.getElem?_eq_some_iff.1 hj).1 HND.out).1 (hj.trans ha.symm)
    omega
   have hsw := relH_swept (L := s.L) (hz := hz) HFIT.out (ps.take k) (HND.out.sublist (List.take_sublist _ _))
   have hgv : hGet (relH s.L hz H (ps.take k)) pg sl = some v := by
    rw [hsw.get, if_neg (fun x => hnk x.1)]
    exact hgv0
   obtain ⟨hx1, hx2⟩ := HNUM.out pg sl v hgv0
   obtain ⟨bl, ofl, rfl, _, la, lb2⟩ := place_cells (HLD.out.kept HT.out (fun k hk e => by have := HSV.out k hk.1; omega)) ha
   obtain ⟨r, hrv⟩ : ∃ r, deadS s.L v.xmin v.xmax hz = r := ⟨_, rfl⟩
   have HTK : Hid (relH s.L hz H (ps.take (k + 1)) = if r then (hFree (relH s.L hz H (ps.take k)) pg sl).2 else relH s.L hz H (ps.take k)) := by
    show _ = _
    rw [List.take_add_one, ha, Option.toList_some, relH_snoc]
    have e1 : deadA s.L (relH s.L hz H (ps.take k)) hz (pg, sl) = r := by unfold deadA; rw [hgv]; exact hrv
    rw [e1]
   obtain ⟨HK, hHK⟩ : ∃ HK, relH s.L hz H (ps.take k) = HK := ⟨_, rfl⟩
   rw [hHK] at HR HTK hgv hsw
   have hcode : (hFree HK pg sl).1 = 0 := by unfold hFree; rw [hgv]
   have HCODE := Lib.hid hcode
   have hqb : Quiet wr (wr.alloc (.cells #[.int .i64 pg, .int .i64 sl] 43)) := (Only.refl _ _).alloc _
   have hat := alloc_new wr (.cells #[.int .i64 pg, .int .i64 sl] 43)
   obtain ⟨at_, hat_⟩ : ∃ at_, wr.heap.size = at_ := ⟨_, rfl⟩
   rw [hat_] at hat
   have HQB : Hid (Quiet wr (wr.alloc (.cells #[.int .i64 pg, .int .i64 sl] 43))) := hqb
   have HZA : Hid (o' at_ = 0) := HR.out.big at_ (by omega)
   have HSA : Hid (StoreAt wr sb o' { s with hs := upd s.hs id (some HK) }) := ⟨_, _, _, _, _, _, _, _, _, HR.out⟩
   have hHK2 : ({ s with hs := upd s.hs id (some HK) } : St).hs id = some HK := by simp [upd]
   have HDD : Hid (∀ W, Quiet (wr.alloc (.cells #[.int .i64 pg, .int .i64 sl] 43)) W -> Calls Tryz.prog 118 #[ptrV sb, .int .u64 (id : Int), .agg #[.int .i64 pg, .int .i64 sl], .int .u64 (hz : Int)] W (BoolQ W r)) := fun W hq => by
    rw [<- hrv]
    exact store_dead (s := { s with hs := upd s.hs id (some HK) }) (HSA.out.quietly (HQB.out.trans hq)) HID.out hHK2 hgv hx1 hx2
   have HHO : Hid (∀ W, Quiet (wr.alloc (.cells #[.int .i64 pg, .int .i64 sl] 43)) W -> Calls Tryz.prog 43 #[ptrV sb] W (fun e w' => e = .returned (.int .u64 (hz : Int)) /\ Quiet W w')) := fun W hq => by
    refine (store_horizon (N := N) (HSA.out.quietly (HQB.out.trans hq)) HNN.out.1 HNN.out.2.1 HNN.out.2.2).mono ?_
    rintro e w' ⟨z, rfl, hh, hq'⟩
    have hh' : HorSt s z := ⟨hh.none_, hh.some_, hh.least, hh.num⟩
    rw [hh'.same HHZ.out]
    exact ⟨rfl, hq'⟩
   obtain ⟨hb', hf', hp'⟩ := HR.out.heaps.2 id HK hHK2
   have hbe : hb' = hb := by
    rw [HF.out] at hf'
    injection hf' with hf'
    have e' : (Value.pointer (some ⟨hb, 0, none⟩)) = .pointer (some ⟨hb', 0, none⟩) := hf'
    injection e' with e'
    injection e' with e'
    injection e' with e' _ _
    exact e'.symm
   subst hbe
   have HP := Lib.hid hp'
   dsimp only at la lb2
   clear ha hgv hx1 hx2 hrv hnk hsw hgv0 hcode hHK hf' hp' hHK2
   go_wp2_with fail
   (try rw [hat_])
   generalize wr.alloc (.cells #[.int .i64 pg, .int .i64 sl] 43) = wb at *
   have HAT := Lib.hid hat
   have HATE := Lib.hid hat_
   clear la lb2 hat hqb hat_
   have HS6 : Hid (∀ W, Only (fun j => o' j = 10 + 2 * id) wb W -> (fun w' => w'.cell? ⟨at_, 0, none⟩ = some (.int .i64 pg) /\ w'.cell? ⟨at_, 1, none⟩ = some (.int .i64 sl) /\ w'.cell? ⟨sb, 3, none⟩ = some (.map (some mh)) /\ (Instr.lookup 63 (.map (some mh)) (.int .u64 (id : Int)) false).run Tryz.prog w' = .ok (ptrV hb') w') W) := fun W ho => by
    have tg := HR.out.tags
    have h2 := HR.out.quietly HQB.out
    have b7 := ho.get HAT.out (fun e => by have := HZA.out; omega)
    exact ⟨by rw [cell_of b7]; rfl, by rw [cell_of b7]; rfl, ho.cell h2.cells.2.2.2.1 (fun e => by dsimp only at e; omega), look_heap (h2.mH.kept ho (fun e => by omega)) HF.out HID.out⟩
   have HFREE : Hid (∀ W, Quiet wb W -> Calls Tryz.prog 120 #[ptrV hb', .agg #[.int .i64 pg, .int .i64 sl]] W (fun e w' => e = .returned (.int .i64 0) /\ Only (fun j => o' j = 10 + 2 * id) W w' /\ HeapIs w' hb' pb (fun j => o' j = 10 + 2 * id) (hFree HK pg sl).2)) := fun W hq => by
    have := heap_free pg sl (HP.out.kept (HQB.out.trans hq) (fun _ _ x => x))
    rw [HCODE.out] at this
    exact this
   cases r with
   | false =>
    refine zH HS6 ((Only.refl _ _).drew) (fun hHeld => ?_)
    simp only [List.size_toArray, List.length_cons, List.length_nil, Nat.reduceAdd]
    have q0 : Quiet wb wb.drew := (Only.refl _ _).drew
    generalize wb.drew = d0 at q0 hHeld ⊢
    refine zT 0 ?_
    refine zT 1 ?_
    refine zT 2 ?_
    refine zT 3 ?_
    refine zR 4 ?_
    intro K hK
    go_simp
    go_at_call 43
    refine (HHO.out _ q0).mono ?_
    rintro e d1 ⟨rfl, hq1⟩
    have q1 := q0.trans hq1
    clear hq1
    dsimp only
    refine hK.out _ _ ?_ (fun hHeld => ?_)
    ·exact HS6.out _ (q1.mono (fun _ _ x => x.elim))
    clear hK K
    (try simp only [Act.put, zPA, zPZ, zPS])
    refine zR 5 ?_
    intro K hK
    go_simp
    go_at_call 118
    refine (HDD.out _ q1).mono ?_
    rintro e d2 ⟨rfl, hq2⟩
    have q2 := q1.trans hq2
    clear hq2
    dsimp only
    refine hK.out _ _ ?_ (fun hHeld => ?_)
    ·exact HS6.out _ (q2.mono (fun _ _ x => x.elim))
    clear hK K
    (try simp only [Act.put, zPA, zPZ, zPS])
    refine zT 6 ?_
    refine zO 7 ?_
    refine zO 8 ?_
    refine zO 9 ?_
    refine zO 10 ?_
    refine zO 11 ?_
    refine zO 12 ?_
    refine zO 13 ?_
    refine zO 14 ?_
    refine zO 15 ?_
    refine zT 16 ?_
    refine wpAnyH_done (by kernel_rfl) ?_ _
    rw [if_neg (by decide)] at HTK
    have HEND : Hid (StoreRow d2 sb o' { s with hs := upd s.hs id (some (relH s.L hz H (ps.take (k + 1)))) } lb bb pb mh mt ms fh ft fs) := by
     rw [HTK.out]
     exact HR.out.quietly (HQB.out.trans q2)
    have HTE : Hid (Only (fun j => o j = 10 + 2 * id) w d2) := (HT.out.trans' HQB.out (fun _ _ x => x.elim)).trans' q2 (fun _ _ x => x.elim)
    clear hHeld q0 q1 q2 HS6 HDD HHO HFREE
    go_wp2
    go_roundw
    case rel => exact ⟨k + 1, m, o', by omega, by go_num, by omega, rfl, HEND.out, HO.out, HTE.out⟩
    case measure => simp [intOf]; omega
   | true =>
    refine zH HS6 ((Only.refl _ _).drew) (fun hHeld => ?_)
    simp only [List.size_toArray, List.length_cons, List.length_nil, Nat.reduceAdd]
    have q0 : Quiet wb wb.drew := (Only.refl _ _).drew
    generalize wb.drew = d0 at q0 hHeld ⊢
    refine zT 0 ?_
    refine zT 1 ?_
    refine zT 2 ?_
    refine zT 3 ?_
    refine zR 4 ?_
    intro K hK
    go_simp
    go_at_call 43
    refine (HHO.out _ q0).mono ?_
    rintro e d1 ⟨rfl, hq1⟩
    have q1 := q0.trans hq1
    clear hq1
    dsimp only
    refine hK.out _ _ ?_ (fun hHeld => ?_)
    ·exact HS6.out _ (q1.mono (fun _ _ x => x.elim))
    clear hK K
    (try simp only [Act.put, zPA, zPZ, zPS])
    refine zR 5 ?_
    intro K hK
    go_simp
    go_at_call 118
    refine (HDD.out _ q1).mono ?_
    rintro e d2 ⟨rfl, hq2⟩
    have q2 := q1.trans hq2
    clear hq2
    dsimp only
    refine hK.out _ _ ?_ (fun hHeld => ?_)
    ·exact HS6.out _ (q2.mono (fun _ _ x => x.elim))
    clear hK K
    (try simp only [Act.put, zPA, zPZ, zPS])
    refine zT 6 ?_
    refine zT 7 ?_
    refine zT 8 ?_
    refine zT 9 ?_
    refine zT 10 ?_
    refine zT 11 ?_
    refine zT 12 ?_
    refine zT 13 ?_
    refine zR 14 ?_
    intro K hK
    go_simp
    go_at_call 120
    refine (HFREE.out _ q2).mono ?_
    rintro e d3 ⟨rfl, ho3, hh3⟩
    dsimp only
    refine hK.out _ _ ?_ (fun hHeld => ?_)
    ·exact HS6.out _ ((q2.mono (fun _ _ x => x.elim)).trans ho3)
    clear hK K
    (try simp only [Act.put, zPA, zPZ, zPS])
    refine zT 15 ?_
    refine zT 16 ?_
    refine wpAnyH_done (by kernel_rfl) ?_ _
    rw [if_pos rfl] at HTK
    have hst := (HR.out.quietly (HQB.out.trans q2)).setHeap (id := id) (left' := s.left) (H' := (hFree HK pg sl).2) HF.out (ho3.mono (fun j _ e => Or.inl e)) (((HR.out.quietly (HQB.out.trans q2)).pool).kept ho3 (fun e => by have := HR.out.tags; omega)) (hh3.mono (fun j e => Or.inl e))
    have HEND : Hid (StoreRow d3 sb (grow o' d2.heap.size d3.heap.size (10 + 2 * id)) { s with hs := upd s.hs id (some (relH s.L hz H (ps.take (k + 1)))) } lb bb pb mh mt ms fh ft fs) := by
     rw [HTK.out]
     have e1 : ({ ({ s with hs := upd s.hs id (some HK) } : St) with left := s.left, hs := upd ({ s with hs := upd s.hs id (some HK) } : St).hs id (some (hFree HK pg sl).2) } : St) = { s with hs := upd s.hs id (some (hFree HK pg sl).2) } := by
      simp only [upd_upd]
     rw [e1] at hst
     exact hst
    have hz2 := q2.size
    have hzb := HQB.out.size
    have hzt := HT.out.size
    have HOE : Hid (∀ j, j < w.heap.size -> grow o' d2.heap.size d3.heap.size (10 + 2 * id) j = o j) := fun j hj => by
     rw [grow_old (by omega)]
     exact HO.out j hj
    have HTE : Hid (Only (fun j => o j = 10 + 2 * id) w d3) := ((HT.out.trans' HQB.out (fun _ _ x => x.elim)).trans' q2 (fun _ _ x => x.elim)).trans' ho3 (fun j hj e => by rw [<- HO.out j hj]; exact e)
    have hw1 : IntKind.i64.wrap ((m : Int) + 1) = ((m + 1 : Nat) : Int) := by rw [wrap_i64_of _ (by omega) (by omega)]; rfl
    clear hHeld q0 q1 q2 ho3 hh3 HS6 HDD HHO HFREE hst hz2 hzb hzt
    go_wp2
    go_roundw
    case rel => exact ⟨k + 1, m + 1, _, by omega, by go_num, by omega, by first | rfl | go_num, HEND.out, HOE.out, HTE.out⟩
    case measure => simp [intOf]; omega
  ·obtain rfl : k = n := by omega
   have HEND : Hid (POST (.returned (.int .i64 (m : Int))) wr) := by
    rw [<- HPOST.out]
    have := HR.out
    rw [List.take_of_length_le (by have := HPL.out; omega)] at this
    exact ⟨⟨_, rfl⟩, o', HO.out, HT.out.mono (fun j _ e => by omega), _, _, _, _, _, _, _, _, _, this⟩
   go_wp2
   exact HEND.out
theorem law_prune_keep {w0 : BaseW} {w : World} {sb hz N : Nat} {K : Nat -> Prop} {s : St} (h : LawB w0 w sb K s) (hh : HorSt s hz) (hlv : BookLives s hz) (hL : s.L.length < 1000000000) (hN : ∀ x y, s.sn x = some y -> x <= N) (hN2 : N <= 2000000) :
  Calls Tryz.prog 117 #[ptrV sb] w (fun e w' => e = .returned (.int .i64 0) /\ ToB w0 w sb K s w') := by
 have hB := h
 obtain ⟨⟨o, h1, h2, h3, h4⟩, _⟩ := h
 refine (store_prune_keep h1 hh hlv hL hN hN2).mono ?_
 rintro e w' ⟨rfl, hst⟩
 exact ⟨rfl, hB.call (law_step h1 h2 h3 h4 hst)⟩
theorem law_book {w0 : BaseW} {w : World} {sb : Nat} {K : Nat -> Prop} {s : St} {t : TE} (h : LawB w0 w sb K s) (hT : s.T = [t]) (hI : s.I.length <= 1000) :
  Calls Tryz.prog 38 #[ptrV sb] w (BookPost w t (keptI s.L t.id s.I)) := by
 obtain ⟨⟨o, h1, _⟩, _⟩ := h
 exact store_book h1 hT hI
theorem elem_job : Elem Tryz.prog 68 168 1 8 := Elem.mk' (.pointer none) Tryz.underlying68 (by kernel_rfl) rfl (by decide)
def BrJobQ (w0 : BaseW) (w : World) (sb rb ps : Nat) (s : St) (tid n k i : Nat) (known : Bool) (ids : List Nat) (D : List (Int × Int)) (q : Nat) : Prop := ∃ jr jb cj vi vd, BrJobAt w0 w sb rb ps s tid n k i known ids D jr jb cj vi vd /\ LawB w0 w sb (fun k => BrK rb jr jb vi vd k ∨ k = q) s
theorem brJob_start {w0 : BaseW} {w2 w4 d1 d2 d3 w9 : World} {sb rb r2 q ps tid jb : Nat} {s : St} {v : Value} (hl : LawB w0 w2 sb (fun k => k = rb ∨ k = q ∨ k = r2) s) (hr : w0.w.heap.size <= rb /\ w0.w.heap.size <= r2 /\ rb ≠ r2) (hqn : w0.w.heap.size <= q) (ho4 : Only (fun k => k = rb) w2 w4) (hb4 : w4.heap[rb]? = some (.cells #[ptrV sb, .bool true, .slice none 0 0, .int .i64 (ps : Int)] 70 (0, 0)))
  (hq1 : Quiet w4 d1) (hj : d1.heap[jb]? = some (.cells #[.int .u64 (tid : Int), .int .i64 0, .slice none 0 0, .bool false, .int .i64 0, .int .i64 0, .slice none 0 0] 170 (0, 0))) (hjn : w4.heap.size <= jb) (hq2 : Quiet d1 d2) (hg : Grew d2 d3 168 1 (.slice none 0 0) v (0 + 1) ([] ++ [ptrV jb]))
  (ho9 : Only (fun k => k = rb ∨ k = r2) d3 w9) (hb9 : w9.heap[rb]? = some (.cells #[ptrV sb, .bool true, v, .int .i64 (ps : Int)] 70 (0, 0))) : BrJobQ w0 w9 sb rb ps s tid 0 0 0 false [] [] q := by
 have hown := hg.own
 rcases owns_cases hown with ⟨_, e⟩ | ⟨jr, cj, rfl, hc1, hc2⟩
 ·omega
 obtain ⟨cs, hcs⟩ := own_blk hown (k := jr) rfl
 have q3 : Quiet d2 d3 := hg.only.mono (fun k _ e => by cases e)
 have z4 := ho4.size
 have z1 := hq1.size
 have z2 := hq2.size
 have z3 := q3.size
 have hjr : d2.heap.size <= jr := by
  rcases hg.loc with y | y
  ·cases y
  ·have e : (Value.slice (some ⟨jr, 0, none⟩) (0 + 1) cj).ownBlock = some jr := rfl
   rw [y] at e
   injection e with e
   omega
 have hlb := lt_of_get hb4
 have hlr2 := hl.lt (Or.inr (Or.inr rfl) : r2 = rb ∨ r2 = q ∨ r2 = r2)
 have hj3 := q3.get (hq2.get hj (fun x => x)) (fun x => x)
 have hjl := lt_of_get hj
 have hj9 := ho9.get hj3 (fun e => by rcases e with e | e <;> omega)
 have hjr9 := ho9.get hcs (fun e => by rcases e with e | e <;> omega)
 have hc0 := hown.cells (by rfl) 0 (ptrV jb) rfl
 rw [add_none, Nat.zero_add, cell_of hcs] at hc0
 have hwhole : Only (fun k => k = rb ∨ k = r2) w2 w9 := ((((ho4.mono (fun k _ e => Or.inl e)).trans' hq1 (fun _ _ x => x.elim)).trans' hq2 (fun _ _ x => x.elim)).trans' q3 (fun _ _ x => x.elim)).trans ho9
 have hs9 := ho9.size
 have hQ : LawB w0 w9 sb (fun k => BrK rb jr jb (.slice none 0 0) (.slice none 0 0) k ∨ k = q) s := by
  refine hl.turnTo (hwhole.mono (fun k _ e => by rcases e with e | e; exact Or.inl e; exact Or.inr (Or.inr e))) (fun k e => by rcases e with e | e | e <;> omega) (fun k e => ?_)
  rcases e with (e | e | e | e | e) | e
  ·exact Or.inl (Or.inl e)
  ·have := lt_of_get hjr9; exact Or.inr ⟨by omega, by omega⟩
  ·have := lt_of_get hj9; exact Or.inr ⟨by omega, by omega⟩
  ·cases e
  ·cases e
  ·exact Or.inl (Or.inr (Or.inl e))
 refine ⟨jr, jb, cj, .slice none 0 0, .slice none 0 0, ⟨hQ.mono (fun k e => Or.inl e), ⟨hb9⟩, ?_, ⟨hj9⟩, World.ownsRow_nil _ _ _ _, World.ownsRow_nil _ _ _ _, fun k e => ?_, by omega⟩, hQ⟩
 ·obtain ⟨l⟩ := cs
  rcases l with _ | ⟨x, l⟩
  ·simp at hc0
  ·simp at hc0
   subst hc0
   exact ⟨l, hjr9⟩
 ·rcases e with e | e | e | e | e
  ·omega
  ·have := hl.quiet.size; omega
  ·have := hl.quiet.size; omega
  ·cases e
  ·cases e
set_option maxHeartbeats 4000000 in
theorem broom_begin {w0 : BaseW} {w : World} {sb rb q ps hz N : Nat} {s : St} {t : TE} {vj : Value} {obj : Obj} (hl : LawB w0 w sb (fun k => k = rb ∨ k = q) s) (hb : BrAt w rb sb false vj ps) (hr : w0.w.heap.size <= rb /\ w0.w.heap.size <= q /\ rb ≠ q) (hqo : w.heap[q]? = some obj) (hT : s.T = [t]) (hI : s.I.length <= 1000) (hh : HorSt s hz) (hlv : BookLives s hz) (hL : s.L.length < 1000000000) (hN : ∀ x y, s.sn x = some y -> x <= N) (hN2 : N <= 2000000) :
  Calls Tryz.prog 74 #[ptrV rb] w (fun e w' => e = .returned (.agg #[.int .i64 0, .int .u64 0, .int .u64 0, .int .i64 0]) /\ BrJobQ w0 w' sb rb ps s t.id 0 0 0 false [] [] q /\ w'.heap[q]? = some obj) := by
 obtain ⟨POST, hPOST⟩ : ∃ POST : Ending -> World -> Prop, (fun e w' => e = .returned (.agg #[.int .i64 0, .int .u64 0, .int .u64 0, .int .i64 0]) /\ BrJobQ w0 w' sb rb ps s t.id 0 0 0 false [] [] q /\ w'.heap[q]? = some obj) = POST := ⟨_, rfl⟩
 rw [hPOST]
 have HPOST := Lib.hid hPOST
 have hq : Quiet w (w.alloc (.cells #[.int .i64 0, .int .u64 0, .int .u64 0, .int .i64 0] 103)) := (Only.refl _ _).alloc _
 have h2 := alloc_new w (.cells #[.int .i64 0, .int .u64 0, .int .u64 0, .int .i64 0] 103)
 obtain ⟨r2, hr2⟩ : ∃ r2, w.heap.size = r2 := ⟨_, rfl⟩
 rw [hr2] at h2
 have HR2 := Lib.hid hr2
 have hbl := lt_of_get hb.box
 have hzl := hl.quiet.size
 have hlq := lt_of_get hqo
 have HRR : Hid (w0.w.heap.size <= rb /\ w0.w.heap.size <= r2 /\ rb ≠ r2 /\ w0.w.heap.size <= q /\ rb ≠ q /\ q ≠ r2) := ⟨hr.1, by omega, by omega, hr.2.1, hr.2.2, by omega⟩
 have HL1 : Hid (LawB w0 (w.alloc (.cells #[.int .i64 0, .int .u64 0, .int .u64 0, .int .i64 0] 103)) sb (fun k => k = rb ∨ k = q ∨ k = r2) s) := (hl.quietly hq).mono (fun k e => by
   rcases e with e | e | e
   · exact Or.inl (Or.inl e)
   · exact Or.inl (Or.inr e)
   · exact Or.inr ⟨by omega, by have := lt_of_get h2; omega⟩)
 have hb1 := hq.get hb.box (fun x => x)
 have HB1 := Lib.hid hb1
 have H21 := Lib.hid h2
 have HQ1 := Lib.hid (hq.get hqo (fun x => x))
 have HQ := Lib.hid hq
 have HTI := Lib.hid (And.intro hT hI)
 have HPR := Lib.hid (law_prune_keep HL1.out hh hlv hL hN hN2)
 have b0 := cell_of hb1 0
 simp only [zGA, zGS, zGZ] at b0
 have lb1 := lt_of_get hb1
 clear hPOST hl hb hr hqo hT hI hh hlv hL hN hN2 hzl hlq
 go_enter Tryz.func74, Tryz.ntmps74
 go_upto_region 1 with fail
 (try rw [hr2])
 generalize w.alloc (.cells #[.int .i64 0, .int .u64 0, .int .u64 0, .int .i64 0] 103) = w1 at *
 clear hq h2 hr2 hb1
 go_wp2_with fail
 refine HPR.out.mono ?_
 rintro e w2 ⟨rfl, hl2⟩
 have HL2 := Lib.hid hl2.st
 have HO2 := Lib.hid hl2.2
 have hb2 := hl2.2.get HB1.out (fun x => x.2 (Or.inl rfl))
 have HB2 := Lib.hid hb2
 have H22 := Lib.hid (hl2.2.get H21.out (fun x => x.2 (Or.inr (Or.inr rfl))))
 have HQ2 := Lib.hid (hl2.2.get HQ1.out (fun x => x.2 (Or.inr (Or.inl rfl))))
 have HBK := Lib.hid (law_book HL2.out HTI.out.1 HTI.out.2)
 have b0 := cell_of hb2 0
 simp only [zGA, zGS, zGZ] at b0
 have lb2 := lt_of_get hb2
 clear hl2 hb2 HPR lb1
 go_wp2_with fail
 refine HBK.out.mono ?_
 rintro e w3 ⟨b, cap, A, c, v, rfl, hO, _⟩
 have HO3 := Lib.hid hO
 have hb3 := hO.quiet.get HB2.out (fun x => x)
 have c1 := cell_of hb3 1
 have c2 := cell_of hb3 2
 have cf := fun o => frozen_of hb3 o
 simp only [zGA, zGS, zGZ] at c1 c2
 have lb3 := lt_of_get hb3
 have HB4 : Hid (((w3.setCell ⟨rb, 1, none⟩ (.bool true)).setCell ⟨rb, 2, none⟩ (.slice none 0 0)).heap[rb]? = some (.cells #[ptrV sb, .bool true, .slice none 0 0, .int .i64 (ps : Int)] 70 (0, 0))) := by
  show _ = _
  rw [set_same (set_same hb3 _ _) _ _]
  rfl
 have HO4 : Hid (Only (fun k => k = rb) w3 ((w3.setCell ⟨rb, 1, none⟩ (.bool true)).setCell ⟨rb, 2, none⟩ (.slice none 0 0))) := ((Only.refl (fun k => k = rb) w3).setCell (p := ⟨rb, 1, none⟩) (fun _ => rfl) _).setCell (p := ⟨rb, 2, none⟩) (fun _ => rfl) _
 clear hO hb3 HBK lb2 b0
 go_upto_region 4 with fail
 generalize (w3.setCell ⟨rb, 1, none⟩ (.bool true)).setCell ⟨rb, 2, none⟩ (.slice none 0 0) = w4 at *
 clear c1 c2 cf lb3
 have HW24 : Hid (Only (fun k => k = rb) w2 w4) := (HO3.out.quiet.mono (fun _ _ x => x.elim)).trans HO4.out
 have hnb : b ≠ rb := fun e => by have := HO3.out.new; have := lt_of_get HB2.out; omega
 obtain ⟨t0, t1, t2, t3, t4⟩ := HO3.out.cells
 have t0 := HO4.out.cell t0 hnb
 have t1 := HO4.out.cell t1 hnb
 have t2 := HO4.out.cell t2 hnb
 have t3 := HO4.out.cell t3 hnb
 have t4 := HO4.out.cell t4 hnb
 have lb4 := cell_lt t0
 dsimp only at lb4
 have hqa : Quiet w4 (w4.alloc (.cells #[.int .u64 (t.id : Int), .string t.name, .slice A t.cols.length c, .int .u64 (t.xmin : Int), .int .u64 (t.xmax : Int)] 83)) := (Only.refl _ _).alloc _
 have hba := alloc_new w4 (.cells #[.int .u64 (t.id : Int), .string t.name, .slice A t.cols.length c, .int .u64 (t.xmin : Int), .int .u64 (t.xmax : Int)] 83)
 obtain ⟨r7, hr7⟩ : ∃ r7, w4.heap.size = r7 := ⟨_, rfl⟩
 rw [hr7] at hba
 have HQA := Lib.hid hqa
 have HBA := Lib.hid hba
 have HR7 := Lib.hid hr7
 clear hba
 go_wp2
 refine wp_loop_rounds 2 ?_
 rw [rounds_succ]
 go_wp2_with fail
 (try rw [hr7])
 generalize w4.alloc (.cells #[.int .u64 (t.id : Int), .string t.name, .slice A t.cols.length c, .int .u64 (t.xmin : Int), .int .u64 (t.xmax : Int)] 83) = w5 at *
 clear hqa hr7 t0 t1 t2 t3 t4 lb4
 have HS7 : Hid (∀ W, Quiet w5 W -> (fun w' => w'.cell? ⟨rb, 2, none⟩ = some (.slice none 0 0) /\ w'.cell? ⟨r7, 0, none⟩ = some (.int .u64 (t.id : Int))) W) := fun W hq => ⟨by rw [cell_of (hq.get (HQA.out.get HB4.out (fun x => x)) (fun x => x))]; rfl, by rw [cell_of (hq.get HBA.out (fun x => x))]; rfl⟩
 refine wp_region_last (S := (fun w' => w'.cell? ⟨rb, 2, none⟩ = some (.slice none 0 0) /\ w'.cell? ⟨r7, 0, none⟩ = some (.int .u64 (t.id : Int)))) (by kernel_rfl) (by kernel_rfl) (by simp) (HS7.out _ ((Only.refl _ _).drew)) (fun hHeld => ?_)
 simp only [List.pop_toArray, List.dropLast, List.size_toArray, List.length_cons, List.length_nil, Nat.reduceAdd, Nat.reduceSub]
 have q0 : Quiet w5 w5.drew := (Only.refl _ _).drew
 generalize w5.drew = d0 at q0 hHeld ⊢
 refine zT 0 ?_
 refine zT 1 ?_
 refine zT 2 ?_
 refine zT 3 ?_
 refine zT 4 ?_
 refine zT 5 ?_
 refine zT 6 ?_
 refine zT 7 ?_
 refine zR 8 ?_
 intro K hK
 go_simp
 refine hK.out _ _ ?_ (fun hHeld => ?_)
 ·exact HS7.out _ (q0.alloc _)
 clear hK K
 (try simp only [Act.put, zPA, zPZ, zPS])
 have q1 : Quiet w5 (d0.alloc (.cells #[.int .u64 (t.id : Int), .int .i64 0, .slice none 0 0, .bool false, .int .i64 0, .int .i64 0, .slice none 0 0] 170)) := q0.alloc _
 have hj1 := alloc_new d0 (.cells #[.int .u64 (t.id : Int), .int .i64 0, .slice none 0 0, .bool false, .int .i64 0, .int .i64 0, .slice none 0 0] 170)
 have hjn := q0.size
 obtain ⟨jb, hjb⟩ : ∃ jb, d0.heap.size = jb := ⟨_, rfl⟩
 rw [hjb] at hj1 hjn ⊢
 generalize d0.alloc (.cells #[.int .u64 (t.id : Int), .int .i64 0, .slice none 0 0, .bool false, .int .i64 0, .int .i64 0, .slice none 0 0] 170) = d1 at *
 clear hjb
 refine zR 9 ?_
 intro K hK
 go_simp
 refine hK.out _ _ ?_ (fun hHeld => ?_)
 ·exact HS7.out _ (q1.alloc _)
 clear hK K
 (try simp only [Act.put, zPA, zPZ, zPS])
 have q12 : Quiet d1 (d1.alloc (.cells #[ptrV jb] 168)) := (Only.refl _ _).alloc _
 have hrd := Rd.one d1 (ptrV jb) 168 (0, 0) (S := fun _ => True) trivial
 obtain ⟨bu, hbu⟩ : ∃ bu, d1.heap.size = bu := ⟨_, rfl⟩
 rw [hbu] at hrd
 (try rw [hbu])
 generalize d1.alloc (.cells #[ptrV jb] 168) = d2 at *
 clear hbu
 have q2 := q1.trans q12
 refine zR 10 ?_
 intro K hK
 refine app_step elem_job rfl (.tmp 37) (.tmp 42) rfl rfl (World.ownsRow_nil _ _ _ _) rfl hrd (one_ptr [jb]) (by unfold maxLen; omega) (by omega) ?_
 intro v3 d3 hg3
 obtain ⟨A3, c3, rfl, _, _, _⟩ := own_form (show World.ownsRow d3 0 168 1 v3 1 [ptrV jb] from hg3.own)
 have q3 : Quiet w5 d3 := q2.trans (hg3.only.mono (fun k _ e => by cases e))
 refine hK.out _ _ ?_ (fun hHeld => ?_)
 ·exact HS7.out _ q3
 clear hK K
 (try simp only [Act.put, zPA, zPZ, zPS])
 refine zT 11 ?_
 refine zT 12 ?_
 refine wpAnyH_done (by kernel_rfl) ?_ _
 refine last_step (o := ?_) ?_ ?_
 rotate_left 1
 (focus (simp only [zGA, zGZ, zGS] <;> rfl))
 intro K hK
 have hb3 := q3.get (HQA.out.get HB4.out (fun x => x)) (fun x => x)
 have k2 := cell_of hb3 2
 have kf := fun o => frozen_of hb3 o
 simp only [zGA, zGS, zGZ] at k2
 go_simp
 refine hK.out _ _ ?_
 clear hK K
 (try dsimp only [Act.put])
 have HG := Lib.hid (And.intro q1 (And.intro hj1 (And.intro hjn (And.intro q12 hg3))))
 have HB9 : Hid ((d3.setCell ⟨rb, 2, none⟩ (.slice A3 1 c3)).heap[rb]? = some (.cells #[ptrV sb, .bool true, .slice A3 1 c3, .int .i64 (ps : Int)] 70 (0, 0))) := by
  show _ = _
  rw [set_same hb3]
  rfl
 have HO9 : Hid (Only (fun k => k = rb) d3 (d3.setCell ⟨rb, 2, none⟩ (.slice A3 1 c3))) := (Only.refl (fun k => k = rb) d3).setCell (p := ⟨rb, 2, none⟩) (fun _ => rfl) _
 have HQ3 := Lib.hid q3
 clear hHeld q0 q1 q2 q3 q12 hg3 hrd hj1 hjn hb3 k2 kf HS7
 generalize d3.setCell ⟨rb, 2, none⟩ (.slice A3 1 c3) = w8 at *
 have HD38 : Hid (Only (fun k => k = rb) w2 w8) := ((HW24.out.trans' HQA.out (fun _ _ x => x.elim)).trans' HQ3.out (fun _ _ x => x.elim)).trans HO9.out
 have h28 := HD38.out.get H22.out (fun e => HRR.out.2.2.1 e.symm)
 have e0 := cell_of h28 0
 have e1 := cell_of h28 1
 have e2 := cell_of h28 2
 have e3 := cell_of h28 3
 have ef := fun o => frozen_of h28 o
 simp only [zGA, zGS, zGZ] at e0 e1 e2 e3
 have hl8 := lt_of_get h28
 have HX := Lib.hid (fourSet_same h28 (.int .i64 0) (.int .u64 0) (.int .u64 0) (.int .i64 0))
 have ho4 := fourSet_only w8 r2 (.int .i64 0) (.int .u64 0) (.int .u64 0) (.int .i64 0)
 have HEND : Hid (POST (.returned (.agg #[.int .i64 0, .int .u64 0, .int .u64 0, .int .i64 0])) (fourSet w8 r2 (.int .i64 0) (.int .u64 0) (.int .u64 0) (.int .i64 0))) := by
  rw [<- HPOST.out]
  have hrr := HRR.out
  refine ⟨rfl, brJob_start HL2.out ⟨hrr.1, hrr.2.1, hrr.2.2.1⟩ hrr.2.2.2.1 HW24.out HB4.out (HQA.out.trans HG.out.1) HG.out.2.1 (Nat.le_trans HQA.out.size HG.out.2.2.1) HG.out.2.2.2.1 HG.out.2.2.2.2 ((HO9.out.mono (fun k _ e => Or.inl e)).trans (ho4.mono (fun k _ e => Or.inr e))) (ho4.get HB9.out (fun e => hrr.2.2.1 e)), ?_⟩
  exact ho4.get (HD38.out.get HQ2.out (fun e => hrr.2.2.2.2.1 e.symm)) (fun e => hrr.2.2.2.2.2 e)
 unfold fourSet at HX HEND
 clear ho4 h28
 go_wp2
 rw [rounds_succ]
 go_wp2
 exact bodyPost_ret (results_cellS Tryz.results74 _ _ r2 _ _ (0, 0) _ (by rfl) HX.out Tryz.underlying103 rfl info_event) (by rfl) HEND.out
section
variable {w0 : BaseW} {w w' : World} {sb rb ps tid n k i n' k' i' : Nat} {s : St} {known known' : Bool} {ids : List Nat} {D D' : List (Int × Int)} {jr jb cj : Nat} {vi vd vd' : Value}
theorem BrJobAt.apart (h : BrJobAt w0 w sb rb ps s tid n k i known ids D jr jb cj vi vd) : rb ≠ jr /\ rb ≠ jb /\ jr ≠ jb /\ (∀ k, vd.ownBlock = some k -> k ≠ rb /\ k ≠ jr /\ k ≠ jb /\ vi.ownBlock ≠ some k) /\ (∀ k, vi.ownBlock = some k -> k ≠ rb /\ k ≠ jr /\ k ≠ jb) := by
 obtain ⟨cs, hr⟩ := h.row
 refine ⟨ne_type h.br.box hr (by decide), ne_type h.br.box h.job.box (by decide), ne_type hr h.job.box (by decide), fun k e => ?_, fun k e => ?_⟩
 ·obtain ⟨c, hh⟩ := own_blk h.dead e
  refine ⟨ne_type hh h.br.box (by decide), ne_type hh hr (by decide), ne_type hh h.job.box (by decide), fun e2 => ?_⟩
  obtain ⟨c2, hh2⟩ := own_blk h.idx e2
  exact ne_type hh hh2 (by decide) rfl
 ·obtain ⟨c, hh⟩ := own_blk h.idx e
  exact ⟨ne_type hh h.br.box (by decide), ne_type hh hr (by decide), ne_type hh h.job.box (by decide)⟩
theorem BrJobAt.turned (h : BrJobAt w0 w sb rb ps s tid n k i known ids D jr jb cj vi vd) (ho : Only (fun k => k = jb ∨ vd.ownBlock = some k) w w') (hj : JobAt w' jb tid n' k' i' known' vi vd') (hd : w'.ownsRow 0 43 2 vd' D'.length (tidsV D')) (hloc : ∀ k, vd'.ownBlock = some k -> vd.ownBlock = some k ∨ w.heap.size <= k) :
  BrJobAt w0 w' sb rb ps s tid n' k' i' known' ids D' jr jb cj vi vd' := by
 obtain ⟨a1, a2, a3, a4, a5⟩ := h.apart
 obtain ⟨cs, hr⟩ := h.row
 have hq := h.law.quiet.size
 refine ⟨h.law.turnTo (ho.mono (fun k _ e => by rcases e with e | e; exact Or.inr (Or.inr (Or.inl e)); exact Or.inr (Or.inr (Or.inr (Or.inr e))))) h.new (fun k e => ?_), ⟨ho.get h.br.box (fun e => by rcases e with e | e; exact a2 e; exact (a4 _ e).1 rfl)⟩, ⟨cs, ho.get hr (fun e => by rcases e with e | e; exact a3 e; exact (a4 _ e).2.1 rfl)⟩, hj, owns_kept h.idx ho (fun k e x => by rcases x with x | x; exact (a5 k e).2.2 x; exact (a4 k x).2.2.2 e), hd, fun k e => ?_, h.cap⟩
 ·rcases e with e | e | e | e | e
  ·exact Or.inl (Or.inl e)
  ·exact Or.inl (Or.inr (Or.inl e))
  ·exact Or.inl (Or.inr (Or.inr (Or.inl e)))
  ·exact Or.inl (Or.inr (Or.inr (Or.inr (Or.inl e))))
  ·rcases hloc k e with x | x
   ·exact Or.inl (Or.inr (Or.inr (Or.inr (Or.inr x))))
   ·obtain ⟨c, hh⟩ := own_blk hd e
    exact Or.inr ⟨x, lt_of_get hh⟩
 ·rcases e with e | e | e | e | e
  ·exact h.new k (Or.inl e)
  ·exact h.new k (Or.inr (Or.inl e))
  ·exact h.new k (Or.inr (Or.inr (Or.inl e)))
  ·exact h.new k (Or.inr (Or.inr (Or.inr (Or.inl e))))
  ·rcases hloc k e with x | x
   ·exact h.new k (Or.inr (Or.inr (Or.inr (Or.inr x))))
   ·omega
theorem BrJobAt.quietly (h : BrJobAt w0 w sb rb ps s tid n k i known ids D jr jb cj vi vd) (hq : Quiet w w') : BrJobAt w0 w' sb rb ps s tid n k i known ids D jr jb cj vi vd :=
 h.turned (hq.mono (fun _ _ x => x.elim)) ⟨hq.get h.job.box (fun x => x)⟩ (owns_kept h.dead hq (fun _ _ x => x)) (fun k e => Or.inl e)
end
theorem seven_set {w : World} {b : Nat} {c0 c1 c2 c3 c4 c5 c6 : Value} {t : TypeId} (h : w.heap[b]? = some (.cells #[c0, c1, c2, c3, c4, c5, c6] t (0, 0))) (v : Value) : (w.setCell ⟨b, 4, none⟩ v).heap[b]? = some (.cells #[c0, c1, c2, c3, v, c5, c6] t (0, 0)) /\ (w.setCell ⟨b, 6, none⟩ v).heap[b]? = some (.cells #[c0, c1, c2, c3, c4, c5, v] t (0, 0)) /\ (w.setCell ⟨b, 3, none⟩ v).heap[b]? = some (.cells #[c0, c1, c2, v, c4, c5, c6] t (0, 0)) /\ (w.setCell ⟨b, 1, none⟩ v).heap[b]? = some (.cells #[c0, v, c2, c3, c4, c5, c6] t (0, 0)) /\ (w.setCell ⟨b, 2, none⟩ v).heap[b]? = some (.cells #[c0, c1, v, c3, c4, c5, c6] t (0, 0)) /\ (w.setCell ⟨b, 5, none⟩ v).heap[b]? = some (.cells #[c0, c1, c2, c3, c4, v, c6] t (0, 0)) := by
 refine ⟨?_, ?_, ?_, ?_, ?_, ?_⟩ <;> (rw [set_same h]; rfl)
theorem law_pages {w0 : BaseW} {w : World} {sb id : Nat} {K : Nat -> Prop} {s : St} {H : List (List (Option Tup))} (h : LawB w0 w sb K s) (hid : U64 id) (hH : s.hs id = some H) :
  Calls Tryz.prog 75 #[ptrV sb, .int .u64 (id : Int)] w (fun e w' => e = .returned (.int .i64 (H.length : Int)) /\ Quiet w w') := by
 obtain ⟨⟨o, h1, _⟩, _⟩ := h
 exact store_pages h1 hid hH
theorem law_gather {w0 : BaseW} {w : World} {sb id hz k N : Nat} {K : Nat -> Prop} {s : St} {H : List (List (Option Tup))} {T : List (Option Tup)} (h : LawB w0 w sb K s) (hid : U64 id) (hH : s.hs id = some H) (hT : H[k]? = some T) (hnum : NumHeap H) (hh : HorSt s hz) (hL : s.L.length < 1000000000) (hN : ∀ x y, s.sn x = some y -> x <= N) (hN2 : N <= 2000000) (hlen : (placesTo (k : Int) T T.length).length <= 1000000) :
  Calls Tryz.prog 76 #[ptrV sb, .int .u64 (id : Int), .int .i64 (k : Int)] w (ChainPost w ((placesTo (k : Int) T T.length).filter (deadA s.L H hz))) := by
 obtain ⟨⟨o, h1, _⟩, _⟩ := h
 exact store_gather h1 hid hH hT hnum hh hL hN hN2 hlen
theorem brJob_gathered {w0 : BaseW} {w w1 d2 w4 w5 w6 w9 : World} {sb rb ps tid n n1 k k1 r2 : Nat} {s : St} {kn : Bool} {ids : List Nat} {D fl : List (Int × Int)} {jr jb cj : Nat} {vi vd v5 : Value} (hj : BrJobAt w0 w sb rb ps s tid n1 k1 0 kn ids D jr jb cj vi vd) (hr2n : w.heap.size <= r2) (h1 : Only (fun x => x = jb) w w1) (hq : Quiet w1 d2) (hr2l : r2 < d2.heap.size) (ho4 : Only (fun x => x = jb) d2 w4) (hg : Grew w4 w5 43 2 vd v5 (D.length + fl.length) (tidsV D ++ tidsV fl)) (ho6 : Only (fun x => x = jb) w5 w6) (ho9 : Only (fun x => x = r2) w6 w9)
  (hb6 : w6.heap[jb]? = some (.cells #[.int .u64 (tid : Int), .int .i64 (n : Int), vi, .bool true, .int .i64 (k : Int), .int .i64 ((0 : Nat) : Int), v5] 170 (0, 0))) : BrJob w0 w9 sb rb ps s tid n k 0 true ids (D ++ fl) := by
 have ap := hj.apart
 have ljb := lt_of_get hj.job.box
 have hown : ∀ k, v5.ownBlock = some k -> vd.ownBlock = some k ∨ w4.heap.size <= k := fun k e => by
  rcases hg.loc with y | y
  ·rw [y] at e; exact Or.inl e
  ·rw [y] at e; injection e with e; exact Or.inr (by omega)
 have z1 := h1.size
 have z2 := hq.size
 have z4 := ho4.size
 have z5 := hg.only.size
 have z6 := ho6.size
 have hvd : ∀ k, vd.ownBlock = some k -> k < w.heap.size := fun k e => by
  obtain ⟨c, hh⟩ := own_blk hj.dead e
  exact lt_of_get hh
 have hd9 : w9.ownsRow 0 43 2 v5 (D ++ fl).length (tidsV (D ++ fl)) := by
  rw [List.length_append, tidsV_append]
  refine owns_kept (owns_kept hg.own ho6 (fun k e x => ?_)) ho9 (fun k e x => ?_)
  ·rcases hown k e with y | y
   ·exact (ap.2.2.2.1 k y).2.2.1 x
   ·omega
  ·rcases hown k e with y | y
   ·have := hvd k y; omega
   ·omega
 have hwhole : Only (fun k => k = jb ∨ vd.ownBlock = some k) w w9 := (((((h1.mono (fun _ _ e => Or.inl e)).trans (hq.mono (fun _ _ x => x.elim))).trans (ho4.mono (fun _ _ e => Or.inl e))).trans (hg.only.mono (fun _ _ e => Or.inr e))).trans (ho6.mono (fun _ _ e => Or.inl e))).trans' ho9 (fun k hk e => by omega)
 exact ⟨jr, jb, cj, vi, v5, hj.turned hwhole ⟨ho9.get hb6 (fun e => by omega)⟩ hd9 (fun k e => (hown k e).imp (fun x => x) (fun x => by omega))⟩
set_option maxHeartbeats 8000000 in
theorem step_gather {w0 : BaseW} {w : World} {sb rb ps tid n k hz N : Nat} {s : St} {H : List (List (Option Tup))} {T : List (Option Tup)} {ids : List Nat} {D : List (Int × Int)} (h : BrJob w0 w sb rb ps s tid n k 0 true ids D) (hn : H.length = n) (hk : k < n) (hk2 : n <= 256) (hid : U64 tid) (hH : s.hs tid = some H) (hT : H[k]? = some T) (hnum : NumHeap H) (hh : HorSt s hz) (hL : s.L.length < 1000000000) (hN : ∀ x y, s.sn x = some y -> x <= N) (hN2 : N <= 2000000) (hlen : (placesTo (k : Int) T T.length).length <= 1000) (hD : D.length <= 1000000) :
  Calls Tryz.prog 37 #[ptrV rb] w (fun e w' => EvKind 1 e /\ BrJob w0 w' sb rb ps s tid n (k + 1) 0 true ids (D ++ (placesTo (k : Int) T T.length).filter (deadA s.L H hz))) := by
 obtain ⟨jr, jb, cj, vi, vd, h⟩ := h
 obtain ⟨fl, hfl⟩ : ∃ fl, (placesTo (k : Int) T T.length).filter (deadA s.L H hz) = fl := ⟨_, rfl⟩
 have hfl2 : fl.length <= 1000 := by rw [<- hfl]; exact Nat.le_trans (List.length_filter_le _ _) hlen
 obtain ⟨POST, hPOST⟩ : ∃ POST : Ending -> World -> Prop, (fun e w' => EvKind 1 e /\ BrJob w0 w' sb rb ps s tid n (k + 1) 0 true ids (D ++ (placesTo (k : Int) T T.length).filter (deadA s.L H hz))) = POST := ⟨_, rfl⟩
 rw [hPOST]
 rw [hfl] at hPOST
 have HPOST := Lib.hid hPOST
 have HLW : Hid (∀ W, Only (fun x => x = jb) w W -> LawB w0 W sb (BrK rb jr jb vi vd) s) := fun W ho => h.law.turnTo (ho.mono (fun x _ e => Or.inr (Or.inr (Or.inl e)))) h.new (fun x e => Or.inl e)
 have HGA : Hid (∀ W, Only (fun x => x = jb) w W -> Calls Tryz.prog 76 #[ptrV sb, .int .u64 (tid : Int), .int .i64 (k : Int)] W (ChainPost W fl)) := fun W ho => by
  rw [<- hfl]
  exact law_gather (HLW.out W ho) hid hH hT hnum hh hL hN hN2 (by omega)
 have hq : Quiet w (w.alloc (.cells #[.int .i64 0, .int .u64 0, .int .u64 0, .int .i64 0] 103)) := (Only.refl _ _).alloc _
 have h2 := alloc_new w (.cells #[.int .i64 0, .int .u64 0, .int .u64 0, .int .i64 0] 103)
 obtain ⟨r2, hr2⟩ : ∃ r2, w.heap.size = r2 := ⟨_, rfl⟩
 rw [hr2] at h2
 have HR2 := Lib.hid hr2
 have HJ := Lib.hid h
 have hcj := h.cap
 unfold maxLen at hcj
 clear h hPOST hfl hlen hH hT hnum hh hL hN hN2 hid
 go_enter Tryz.func37, Tryz.ntmps37
 go_upto_block 0 with (fail)
 (try rw [hr2])
 generalize w.alloc (.cells #[.int .i64 0, .int .u64 0, .int .u64 0, .int .i64 0] 103) = w1 at *
 have HQ1 := Lib.hid hq
 have H21 := Lib.hid h2
 have h1 := HJ.out.quietly hq
 have b0 := cell_of h1.br.box 0
 have b1 := cell_of h1.br.box 1
 have b2 := cell_of h1.br.box 2
 obtain ⟨cs, hrow⟩ := h1.row
 have j0 : w1.cell? ⟨jr, 0, none⟩ = some (ptrV jb) := by rw [cell_of hrow]; rfl
 have k0 := cell_of h1.job.box 0
 have k3 := cell_of h1.job.box 3
 simp only [zGA, zGS, zGZ] at b0 b1 b2 k0 k3
 have lb := lt_of_get h1.br.box
 have lr := lt_of_get hrow
 have ljb := lt_of_get h1.job.box
 clear hq h2 hr2 hrow
 have HO1 : Hid (Only (fun x => x = jb) w w1) := HQ1.out.mono (fun _ _ x => x.elim)
 have HJ1 := Lib.hid h1
 clear h1
 go_upto_region 12 with fail
 have HS12 : Hid (∀ W, Quiet w1 W -> (fun w' => w'.cell? ⟨jb, 4, none⟩ = some (.int .i64 (k : Int)) /\ w'.cell? ⟨jb, 1, none⟩ = some (.int .i64 (n : Int))) W) := fun W hq => by
  have b := (HJ1.out.quietly hq).job.box
  exact ⟨by rw [cell_of b]; rfl, by rw [cell_of b]; rfl⟩
 refine zH HS12 ((Only.refl _ _).drew) (fun hHeld => ?_)
 simp only [List.size_toArray, List.length_cons, List.length_nil, Nat.reduceAdd]
 have q0 : Quiet w1 w1.drew := (Only.refl _ _).drew
 generalize w1.drew = d0 at q0 hHeld ⊢
 refine zT 0 ?_
 refine zT 1 ?_
 refine zT 2 ?_
 refine zT 3 ?_
 refine zT 4 ?_
 refine zT 5 ?_
 refine zT 6 ?_
 refine zT 7 ?_
 refine zT 8 ?_
 refine wpAnyH_done (by kernel_rfl) ?_ _
 clear hHeld
 have HQ12 : Hid (Quiet w1 d0) := q0
 have HS13 : Hid (∀ W, Quiet d0 W -> (fun w' => w'.cell? ⟨rb, 0, none⟩ = some (ptrV sb) /\ w'.cell? ⟨jb, 0, none⟩ = some (.int .u64 (tid : Int)) /\ w'.cell? ⟨jb, 4, none⟩ = some (.int .i64 (k : Int))) W) := fun W hq => by
  have hj := HJ1.out.quietly (HQ12.out.trans hq)
  have b := hj.job.box
  exact ⟨by rw [cell_of hj.br.box]; rfl, by rw [cell_of b]; rfl, by rw [cell_of b]; rfl⟩
 clear j0 lb lr ljb HS12
 go_wp2_with fail
 refine zH HS13 ((Only.refl _ _).drew) (fun hHeld => ?_)
 simp only [List.size_toArray, List.length_cons, List.length_nil, Nat.reduceAdd]
 have q1 : Quiet d0 d0.drew := (Only.refl _ _).drew
 generalize d0.drew = d1 at q1 hHeld ⊢
 refine zT 0 ?_
 refine zT 1 ?_
 refine zT 2 ?_
 refine zT 3 ?_
 refine zT 4 ?_
 refine zT 5 ?_
 refine zT 6 ?_
 refine zT 7 ?_
 refine zT 8 ?_
 refine zT 9 ?_
 refine zT 10 ?_
 refine zT 11 ?_
 refine zR 12 ?_
 intro K hK
 go_simp
 go_at_call 76
 refine (HGA.out _ (HO1.out.trans' (HQ12.out.trans q1) (fun _ _ x => x.elim))).mono ?_
 rintro e d2 ⟨v2, rfl, hq2, hn2, ht2⟩
 obtain ⟨A2, c2, rfl, _, _, _⟩ := own_form ht2
 have q2 := q1.trans hq2
 dsimp only
 refine hK.out _ _ ?_ (fun hHeld => ?_)
 ·exact HS13.out _ q2
 clear hK K
 (try simp only [Act.put, zPA, zPZ, zPS])
 refine zT 13 ?_
 refine wpAnyH_done (by kernel_rfl) ?_ _
 clear hHeld
 have HQ3 : Hid (Quiet w1 d2) := HQ12.out.trans q2
 have HTD := Lib.hid ht2
 have HNN : Hid (∀ k, (Value.slice A2 fl.length c2).ownBlock = some k -> w1.heap.size <= k) := fun k e => Nat.le_trans (HQ12.out.trans q1).size (hn2 k e)
 have hj := HJ1.out.quietly HQ3.out
 have HJ3 := Lib.hid hj
 have c0 := cell_of hj.job.box 0
 have c4 := cell_of hj.job.box 4
 have c6 := cell_of hj.job.box 6
 have cf := fun o => frozen_of hj.job.box o
 simp only [zGA, zGS, zGZ] at c0 c4 c6
 have lj := lt_of_get hj.job.box
 have hw1 : IntKind.i64.wrap ((k : Int) + 1) = (k : Int) + 1 := wrap_i64_of _ (by omega) (by omega)
 have ho4 : Only (fun x => x = jb) d2 (d2.setCell ⟨jb, 4, none⟩ (.int .i64 ((k : Int) + 1))) := (Only.refl (fun x => x = jb) d2).setCell (p := ⟨jb, 4, none⟩) (fun _ => rfl) _
 have HB4 := Lib.hid (seven_set hj.job.box (.int .i64 ((k : Int) + 1))).1
 have HO4 := Lib.hid ho4
 clear q0 q1 q2 hq2 hn2 ht2 HS13 HGA ho4 hj
 go_upto_region 15 with fail
 generalize d2.setCell ⟨jb, 4, none⟩ (.int .i64 ((k : Int) + 1)) = w4 at *
 clear c0 c4 c6 cf lj
 have ap := HJ3.out.apart
 have hd4 : w4.ownsRow 0 43 2 vd D.length (tidsV D) := owns_kept HJ3.out.dead HO4.out (fun k e x => (ap.2.2.2.1 k e).2.2.1 x)
 have hfl4 : Rd w4 (fun _ => True) 2 A2 fl.length (tidsV fl) := by
  obtain ⟨A', c', e', _, _, hr⟩ := own_form HTD.out
  injection e' with e1 _ e2
  subst e1 e2
  exact (hr.kept HO4.out (fun k e x => by have := HNN.out k e; have := lt_of_get HJ1.out.job.box; omega)).mono (fun _ _ => trivial)
 have c0 := cell_of HB4.out 0
 have c6 := cell_of HB4.out 6
 simp only [zGA, zGS, zGZ] at c0 c6
 have lj := lt_of_get HB4.out
 have HAP := Lib.hid ap
 clear ap
 go_wp2_with (at_builtin; refine app elem_tid rfl (.tmp 104) (.tmp 105) rfl rfl hd4 rfl hfl4 (one_tids fl) (by unfold maxLen; omega) (by omega) ?_)
 intro v5 w5 hg5
 obtain ⟨A5, c5, rfl, _, _, _⟩ := own_form hg5.own
 have HG5 := Lib.hid hg5
 have hb5 := hg5.only.get HB4.out (fun e => (HAP.out.2.2.2.1 _ e).2.2.1 rfl)
 have cf := fun o => frozen_of hb5 o
 have c6 := cell_of hb5 6
 simp only [zGA, zGS, zGZ] at c6
 have lj := lt_of_get hb5
 have HB6 := Lib.hid (seven_set hb5 (.slice A5 (D.length + fl.length) c5)).2.1
 have HO6 : Hid (Only (fun x => x = jb) w5 (w5.setCell ⟨jb, 6, none⟩ (.slice A5 (D.length + fl.length) c5))) := (Only.refl (fun x => x = jb) w5).setCell (p := ⟨jb, 6, none⟩) (fun _ => rfl) _
 clear hd4 hfl4 hg5 hb5
 go_upto_region 16 with fail
 generalize w5.setCell ⟨jb, 6, none⟩ (.slice A5 (D.length + fl.length) c5) = w6 at *
 clear c0 c6 cf lj
 have hr2' := HR2.out
 have hjl := lt_of_get HJ.out.job.box
 have hn2 : ¬ r2 = jb := by omega
 have h26 := HO6.out.get (HG5.out.only.get (HO4.out.get (HQ3.out.get H21.out (fun x => x)) hn2) (fun e => by obtain ⟨c, hh⟩ := own_blk HJ.out.dead e; have := lt_of_get hh; omega)) hn2
 have e0 := cell_of h26 0
 have e1 := cell_of h26 1
 have e2 := cell_of h26 2
 have e3 := cell_of h26 3
 have ef := fun o => frozen_of h26 o
 have c0 := cell_of HB6.out 0
 simp only [zGA, zGS, zGZ] at e0 e1 e2 e3 c0
 have l2 := lt_of_get h26
 have lj := lt_of_get HB6.out
 have HX := Lib.hid (fourSet_same h26 (.int .i64 1) (.int .u64 (tid : Int)) (.int .u64 0) (.int .i64 (fl.length : Int)))
 have ho9 := fourSet_only w6 r2 (.int .i64 1) (.int .u64 (tid : Int)) (.int .u64 0) (.int .i64 (fl.length : Int))
 have HEND : Hid (POST (.returned (.agg #[.int .i64 1, .int .u64 (tid : Int), .int .u64 0, .int .i64 (fl.length : Int)])) (fourSet w6 r2 (.int .i64 1) (.int .u64 (tid : Int)) (.int .u64 0) (.int .i64 (fl.length : Int)))) := by
  rw [<- HPOST.out]
  exact ⟨⟨_, _, _, rfl⟩, brJob_gathered HJ.out (Nat.le_of_eq hr2') HO1.out HQ3.out (Nat.lt_of_lt_of_le (lt_of_get H21.out) HQ3.out.size) HO4.out HG5.out HO6.out ho9 HB6.out⟩
 unfold fourSet at HX HEND
 clear ho9 h26 hr2' hjl
 go_wp2
 exact bodyPost_ret (results_cellS Tryz.results37 _ _ r2 _ _ (0, 0) _ (by rfl) HX.out Tryz.underlying103 rfl info_event) (by rfl) HEND.out
set_option maxHeartbeats 8000000 in
theorem step_gather0 {w0 : BaseW} {w : World} {sb rb ps tid n k hz N : Nat} {s : St} {H : List (List (Option Tup))} {T : List (Option Tup)} {ids : List Nat} {D : List (Int × Int)} (h : BrJob w0 w sb rb ps s tid 0 k 0 false ids D) (hn : H.length = n) (hk : k < n) (hk2 : n <= 256) (hid : U64 tid) (hH : s.hs tid = some H) (hT : H[k]? = some T) (hnum : NumHeap H) (hh : HorSt s hz) (hL : s.L.length < 1000000000) (hN : ∀ x y, s.sn x = some y -> x <= N) (hN2 : N <= 2000000) (hlen : (placesTo (k : Int) T T.length).length <= 1000) (hD : D.length <= 1000000) :
  Calls Tryz.prog 37 #[ptrV rb] w (fun e w' => EvKind 1 e /\ BrJob w0 w' sb rb ps s tid n (k + 1) 0 true ids (D ++ (placesTo (k : Int) T T.length).filter (deadA s.L H hz))) := by
 obtain ⟨jr, jb, cj, vi, vd, h⟩ := h
 obtain ⟨fl, hfl⟩ : ∃ fl, (placesTo (k : Int) T T.length).filter (deadA s.L H hz) = fl := ⟨_, rfl⟩
 have hfl2 : fl.length <= 1000 := by rw [<- hfl]; exact Nat.le_trans (List.length_filter_le _ _) hlen
 obtain ⟨POST, hPOST⟩ : ∃ POST : Ending -> World -> Prop, (fun e w' => EvKind 1 e /\ BrJob w0 w' sb rb ps s tid n (k + 1) 0 true ids (D ++ (placesTo (k : Int) T T.length).filter (deadA s.L H hz))) = POST := ⟨_, rfl⟩
 rw [hPOST]
 rw [hfl] at hPOST
 have HPOST := Lib.hid hPOST
 have HLW : Hid (∀ W, Only (fun x => x = jb) w W -> LawB w0 W sb (BrK rb jr jb vi vd) s) := fun W ho => h.law.turnTo (ho.mono (fun x _ e => Or.inr (Or.inr (Or.inl e)))) h.new (fun x e => Or.inl e)
 have HGA : Hid (∀ W, Only (fun x => x = jb) w W -> Calls Tryz.prog 76 #[ptrV sb, .int .u64 (tid : Int), .int .i64 (k : Int)] W (ChainPost W fl)) := fun W ho => by
  rw [<- hfl]
  exact law_gather (HLW.out W ho) hid hH hT hnum hh hL hN hN2 (by omega)
 have hq : Quiet w (w.alloc (.cells #[.int .i64 0, .int .u64 0, .int .u64 0, .int .i64 0] 103)) := (Only.refl _ _).alloc _
 have h2 := alloc_new w (.cells #[.int .i64 0, .int .u64 0, .int .u64 0, .int .i64 0] 103)
 obtain ⟨r2, hr2⟩ : ∃ r2, w.heap.size = r2 := ⟨_, rfl⟩
 rw [hr2] at h2
 have HR2 := Lib.hid hr2
 have HJ := Lib.hid h
 have hcj := h.cap
 unfold maxLen at hcj
 have HPG : Hid (∀ W, Quiet w W -> Calls Tryz.prog 75 #[ptrV sb, .int .u64 (tid : Int)] W (fun e w' => e = .returned (.int .i64 (n : Int)) /\ Quiet W w')) := fun W ho => by
  rw [<- hn]
  exact law_pages (h.law.same ho) hid hH
 clear h hPOST hfl hlen hH hT hnum hh hL hN hN2 hid
 go_enter Tryz.func37, Tryz.ntmps37
 go_upto_block 0 with (fail)
 (try rw [hr2])
 generalize w.alloc (.cells #[.int .i64 0, .int .u64 0, .int .u64 0, .int .i64 0] 103) = w1 at *
 have HQ1 := Lib.hid hq
 have H21 := Lib.hid h2
 have h1 := HJ.out.quietly hq
 have b0 := cell_of h1.br.box 0
 have b1 := cell_of h1.br.box 1
 have b2 := cell_of h1.br.box 2
 obtain ⟨cs, hrow⟩ := h1.row
 have j0 : w1.cell? ⟨jr, 0, none⟩ = some (ptrV jb) := by rw [cell_of hrow]; rfl
 have k0 := cell_of h1.job.box 0
 have k3 := cell_of h1.job.box 3
 simp only [zGA, zGS, zGZ] at b0 b1 b2 k0 k3
 have lb := lt_of_get h1.br.box
 have lr := lt_of_get hrow
 have ljb := lt_of_get h1.job.box
 clear hq h2 hr2 hrow
 go_upto_region 11 with fail
 have HS11 : Hid (∀ W, Quiet w1 W -> (fun w' => w'.cell? ⟨rb, 0, none⟩ = some (ptrV sb) /\ w'.cell? ⟨jb, 0, none⟩ = some (.int .u64 (tid : Int))) W) := fun W hq => by
  have hj := HJ.out.quietly (HQ1.out.trans hq)
  exact ⟨by rw [cell_of hj.br.box]; rfl, by rw [cell_of hj.job.box]; rfl⟩
 clear b1 b2
 refine zH HS11 ((Only.refl _ _).drew) (fun hHeld => ?_)
 simp only [List.size_toArray, List.length_cons, List.length_nil, Nat.reduceAdd]
 have q0 : Quiet w1 w1.drew := (Only.refl _ _).drew
 generalize w1.drew = d0 at q0 hHeld ⊢
 refine zT 0 ?_
 refine zT 1 ?_
 refine zT 2 ?_
 refine zT 3 ?_
 refine zT 4 ?_
 refine zT 5 ?_
 refine zT 6 ?_
 refine zT 7 ?_
 refine zT 8 ?_
 refine zT 9 ?_
 refine zR 10 ?_
 intro K hK
 go_simp
 go_at_call 75
 refine (HPG.out _ (HQ1.out.trans q0)).mono ?_
 rintro e d2 ⟨rfl, hq2⟩
 have q2 := q0.trans hq2
 dsimp only
 refine hK.out _ _ ?_ (fun hHeld => ?_)
 ·exact HS11.out _ q2
 clear hK K
 (try simp only [Act.put, zPA, zPZ, zPS])
 refine zT 11 ?_
 refine zT 12 ?_
 refine zR 13 ?_
 intro K hK
 have hj2 := HJ.out.quietly (HQ1.out.trans q2)
 have HJ2 := Lib.hid hj2
 have k3 := cell_of hj2.job.box 3
 have kf := fun o => frozen_of hj2.job.box o
 have lj2 := lt_of_get hj2.job.box
 have hb3 := (seven_set hj2.job.box (.bool true)).2.2.1
 have ho3 : Only (fun x => x = jb) d2 (d2.setCell ⟨jb, 3, none⟩ (.bool true)) := (Only.refl (fun x => x = jb) d2).setCell (p := ⟨jb, 3, none⟩) (fun _ => rfl) _
 clear hj2
 simp only [zGA, zGS, zGZ] at k3
 go_simp
 refine hK.out _ _ ?_ (fun hHeld => ?_)
 ·exact ⟨by rw [cell_of (ho3.get HJ2.out.br.box HJ2.out.apart.2.1)]; rfl, by rw [cell_of hb3]; rfl⟩
 clear hK K
 (try simp only [Act.put, zPA, zPZ, zPS])
 clear k3 kf lj2
 generalize (d2.setCell ⟨jb, 3, none⟩ (.bool true)) = d3 at *
 refine zT 14 ?_
 refine zT 15 ?_
 refine zR 16 ?_
 intro K hK
 have k1 := cell_of hb3 1
 have kf := fun o => frozen_of hb3 o
 have lj3 := lt_of_get hb3
 have hbr3 := ho3.get HJ2.out.br.box HJ2.out.apart.2.1
 simp only [zGA, zGS, zGZ] at k1
 go_simp
 refine hK.out _ _ ?_ (fun hHeld => ?_)
 ·exact ⟨by rw [cell_of (((Only.refl (fun x => x = jb) d3).setCell (p := ⟨jb, 1, none⟩) (fun _ => rfl) (.int .i64 (n : Int))).get hbr3 HJ2.out.apart.2.1)]; rfl, by rw [cell_of (seven_set hb3 (.int .i64 (n : Int))).2.2.2.1]; rfl⟩
 clear hK K
 (try simp only [Act.put, zPA, zPZ, zPS])
 clear k1 kf lj3 hbr3
 refine wpAnyH_done (by kernel_rfl) ?_ _
 have HO1 : Hid (Only (fun x => x = jb) w (d3.setCell ⟨jb, 1, none⟩ (.int .i64 (n : Int)))) := ((((HQ1.out.trans q2).mono (fun _ _ x => x.elim)).trans ho3).setCell (p := ⟨jb, 1, none⟩) (fun _ => rfl) _)
 have hb4 := (seven_set hb3 (.int .i64 (n : Int))).2.2.2.1
 have HJ1 : Hid (BrJobAt w0 (d3.setCell ⟨jb, 1, none⟩ (.int .i64 (n : Int))) sb rb ps s tid n k 0 true ids D jr jb cj vi vd) := HJ.out.turned (HO1.out.mono (fun _ _ e => Or.inl e)) ⟨hb4⟩ (owns_kept HJ.out.dead HO1.out (fun k e x => (HJ.out.apart.2.2.2.1 k e).2.2.1 x)) (fun k e => Or.inl e)
 have hrj : ¬ r2 = jb := by have := HR2.out; have := lt_of_get HJ.out.job.box; omega
 have H22 := Lib.hid (((ho3.trans ((Only.refl (fun x => x = jb) d3).setCell (p := ⟨jb, 1, none⟩) (fun _ => rfl) (.int .i64 (n : Int)))).get (q2.get H21.out (fun x => x)) hrj))
 have q12 : jb < w.heap.size := lt_of_get HJ.out.job.box
 clear hHeld q0 hq2 q2 ho3 hb3 hb4 HJ2 HS11 b0 k0 k3 H21 HPG
 generalize d3.setCell ⟨jb, 1, none⟩ (.int .i64 (n : Int)) = w2 at *
 have h1 := HJ1.out
 obtain ⟨cs, hrow⟩ := h1.row
 have b0 := cell_of h1.br.box 0
 have j0 : w2.cell? ⟨jr, 0, none⟩ = some (ptrV jb) := by rw [cell_of hrow]; rfl
 have lb := lt_of_get h1.br.box
 have lr := lt_of_get hrow
 have ljb := lt_of_get h1.job.box
 clear h1
 go_upto_region 12 with fail
 have HS12 : Hid (∀ W, Quiet w2 W -> (fun w' => w'.cell? ⟨jb, 4, none⟩ = some (.int .i64 (k : Int)) /\ w'.cell? ⟨jb, 1, none⟩ = some (.int .i64 (n : Int))) W) := fun W hq => by
  have b := (HJ1.out.quietly hq).job.box
  exact ⟨by rw [cell_of b]; rfl, by rw [cell_of b]; rfl⟩
 refine zH HS12 ((Only.refl _ _).drew) (fun hHeld => ?_)
 simp only [List.size_toArray, List.length_cons, List.length_nil, Nat.reduceAdd]
 have q0 : Quiet w2 w2.drew := (Only.refl _ _).drew
 generalize w2.drew = d0 at q0 hHeld ⊢
 refine zT 0 ?_
 refine zT 1 ?_
 refine zT 2 ?_
 refine zT 3 ?_
 refine zT 4 ?_
 refine zT 5 ?_
 refine zT 6 ?_
 refine zT 7 ?_
 refine zT 8 ?_
 refine wpAnyH_done (by kernel_rfl) ?_ _
 clear hHeld
 have HQ12 : Hid (Quiet w2 d0) := q0
 have HS13 : Hid (∀ W, Quiet d0 W -> (fun w' => w'.cell? ⟨rb, 0, none⟩ = some (ptrV sb) /\ w'.cell? ⟨jb, 0, none⟩ = some (.int .u64 (tid : Int)) /\ w'.cell? ⟨jb, 4, none⟩ = some (.int .i64 (k : Int))) W) := fun W hq => by
  have hj := HJ1.out.quietly (HQ12.out.trans hq)
  have b := hj.job.box
  exact ⟨by rw [cell_of hj.br.box]; rfl, by rw [cell_of b]; rfl, by rw [cell_of b]; rfl⟩
 clear j0 lb lr ljb HS12
 go_wp2_with fail
 refine zH HS13 ((Only.refl _ _).drew) (fun hHeld => ?_)
 simp only [List.size_toArray, List.length_cons, List.length_nil, Nat.reduceAdd]
 have q1 : Quiet d0 d0.drew := (Only.refl _ _).drew
 generalize d0.drew = d1 at q1 hHeld ⊢
 refine zT 0 ?_
 refine zT 1 ?_
 refine zT 2 ?_
 refine zT 3 ?_
 refine zT 4 ?_
 refine zT 5 ?_
 refine zT 6 ?_
 refine zT 7 ?_
 refine zT 8 ?_
 refine zT 9 ?_
 refine zT 10 ?_
 refine zT 11 ?_
 refine zR 12 ?_
 intro K hK
 go_simp
 go_at_call 76
 refine (HGA.out _ (HO1.out.trans' (HQ12.out.trans q1) (fun _ _ x => x.elim))).mono ?_
 rintro e d2 ⟨v2, rfl, hq2, hn2, ht2⟩
 obtain ⟨A2, c2, rfl, _, _, _⟩ := own_form ht2
 have q2 := q1.trans hq2
 dsimp only
 refine hK.out _ _ ?_ (fun hHeld => ?_)
 ·exact HS13.out _ q2
 clear hK K
 (try simp only [Act.put, zPA, zPZ, zPS])
 refine zT 13 ?_
 refine wpAnyH_done (by kernel_rfl) ?_ _
 clear hHeld
 have HQ3 : Hid (Quiet w2 d2) := HQ12.out.trans q2
 have HTD := Lib.hid ht2
 have HNN : Hid (∀ k, (Value.slice A2 fl.length c2).ownBlock = some k -> w2.heap.size <= k) := fun k e => Nat.le_trans (HQ12.out.trans q1).size (hn2 k e)
 have hj := HJ1.out.quietly HQ3.out
 have HJ3 := Lib.hid hj
 have c0 := cell_of hj.job.box 0
 have c4 := cell_of hj.job.box 4
 have c6 := cell_of hj.job.box 6
 have cf := fun o => frozen_of hj.job.box o
 simp only [zGA, zGS, zGZ] at c0 c4 c6
 have lj := lt_of_get hj.job.box
 have hw1 : IntKind.i64.wrap ((k : Int) + 1) = (k : Int) + 1 := wrap_i64_of _ (by omega) (by omega)
 have ho4 : Only (fun x => x = jb) d2 (d2.setCell ⟨jb, 4, none⟩ (.int .i64 ((k : Int) + 1))) := (Only.refl (fun x => x = jb) d2).setCell (p := ⟨jb, 4, none⟩) (fun _ => rfl) _
 have HB4 := Lib.hid (seven_set hj.job.box (.int .i64 ((k : Int) + 1))).1
 have HO4 := Lib.hid ho4
 clear q0 q1 q2 hq2 hn2 ht2 HS13 HGA ho4 hj
 go_upto_region 15 with fail
 generalize d2.setCell ⟨jb, 4, none⟩ (.int .i64 ((k : Int) + 1)) = w4 at *
 clear c0 c4 c6 cf lj
 have ap := HJ3.out.apart
 have hd4 : w4.ownsRow 0 43 2 vd D.length (tidsV D) := owns_kept HJ3.out.dead HO4.out (fun k e x => (ap.2.2.2.1 k e).2.2.1 x)
 have hfl4 : Rd w4 (fun _ => True) 2 A2 fl.length (tidsV fl) := by
  obtain ⟨A', c', e', _, _, hr⟩ := own_form HTD.out
  injection e' with e1 _ e2
  subst e1 e2
  exact (hr.kept HO4.out (fun k e x => by have := HNN.out k e; have := lt_of_get HJ1.out.job.box; omega)).mono (fun _ _ => trivial)
 have c0 := cell_of HB4.out 0
 have c6 := cell_of HB4.out 6
 simp only [zGA, zGS, zGZ] at c0 c6
 have lj := lt_of_get HB4.out
 have HAP := Lib.hid ap
 clear ap
 go_wp2_with (at_builtin; refine app elem_tid rfl (.tmp 104) (.tmp 105) rfl rfl hd4 rfl hfl4 (one_tids fl) (by unfold maxLen; omega) (by omega) ?_)
 intro v5 w5 hg5
 obtain ⟨A5, c5, rfl, _, _, _⟩ := own_form hg5.own
 have HG5 := Lib.hid hg5
 have hb5 := hg5.only.get HB4.out (fun e => (HAP.out.2.2.2.1 _ e).2.2.1 rfl)
 have cf := fun o => frozen_of hb5 o
 have c6 := cell_of hb5 6
 simp only [zGA, zGS, zGZ] at c6
 have lj := lt_of_get hb5
 have HB6 := Lib.hid (seven_set hb5 (.slice A5 (D.length + fl.length) c5)).2.1
 have HO6 : Hid (Only (fun x => x = jb) w5 (w5.setCell ⟨jb, 6, none⟩ (.slice A5 (D.length + fl.length) c5))) := (Only.refl (fun x => x = jb) w5).setCell (p := ⟨jb, 6, none⟩) (fun _ => rfl) _
 clear hd4 hfl4 hg5 hb5
 go_upto_region 16 with fail
 generalize w5.setCell ⟨jb, 6, none⟩ (.slice A5 (D.length + fl.length) c5) = w6 at *
 clear c0 c6 cf lj
 have hr2' := HR2.out
 have hjl := lt_of_get HJ.out.job.box
 have hn2 : ¬ r2 = jb := by omega
 have h26 := HO6.out.get (HG5.out.only.get (HO4.out.get (HQ3.out.get H22.out (fun x => x)) hn2) (fun e => by obtain ⟨c, hh⟩ := own_blk HJ.out.dead e; have := lt_of_get hh; omega)) hn2
 have e0 := cell_of h26 0
 have e1 := cell_of h26 1
 have e2 := cell_of h26 2
 have e3 := cell_of h26 3
 have ef := fun o => frozen_of h26 o
 have c0 := cell_of HB6.out 0
 simp only [zGA, zGS, zGZ] at e0 e1 e2 e3 c0
 have l2 := lt_of_get h26
 have lj := lt_of_get HB6.out
 have HX := Lib.hid (fourSet_same h26 (.int .i64 1) (.int .u64 (tid : Int)) (.int .u64 0) (.int .i64 (fl.length : Int)))
 have ho9 := fourSet_only w6 r2 (.int .i64 1) (.int .u64 (tid : Int)) (.int .u64 0) (.int .i64 (fl.length : Int))
 have HEND : Hid (POST (.returned (.agg #[.int .i64 1, .int .u64 (tid : Int), .int .u64 0, .int .i64 (fl.length : Int)])) (fourSet w6 r2 (.int .i64 1) (.int .u64 (tid : Int)) (.int .u64 0) (.int .i64 (fl.length : Int)))) := by
  rw [<- HPOST.out]
  exact ⟨⟨_, _, _, rfl⟩, brJob_gathered HJ.out (Nat.le_of_eq hr2') HO1.out HQ3.out (Nat.lt_of_lt_of_le (lt_of_get H22.out) HQ3.out.size) HO4.out HG5.out HO6.out ho9 HB6.out⟩
 unfold fourSet at HX HEND
 clear ho9 h26 hr2' hjl
 go_wp2
 exact bodyPost_ret (results_cellS Tryz.results37 _ _ r2 _ _ (0, 0) _ (by rfl) HX.out Tryz.underlying103 rfl info_event) (by rfl) HEND.out
theorem BrJobAt.other {w0 : BaseW} {w w' : World} {sb rb ps tid n k i q : Nat} {s : St} {known : Bool} {ids : List Nat} {D : List (Int × Int)} {jr jb cj : Nat} {vi vd v0 v1 v2 v3 : Value} (h : BrJobAt w0 w sb rb ps s tid n k i known ids D jr jb cj vi vd) (hl : LawB w0 w sb (fun k => BrK rb jr jb vi vd k ∨ k = q) s) (hq : w.heap[q]? = some (.cells #[v0, v1, v2, v3] 103 (0, 0))) (ho : Only (· = q) w w') (hn : w0.w.heap.size <= q) : BrJobAt w0 w' sb rb ps s tid n k i known ids D jr jb cj vi vd := by
 obtain ⟨cs, hr⟩ := h.row
 refine ⟨hl.turnTo (ho.mono (fun _ _ e => Or.inr e)) (fun k e => ?_) (fun k e => Or.inl (Or.inl e)), ⟨ho.get h.br.box (ne_type h.br.box hq (by decide))⟩, ⟨cs, ho.get hr (ne_type hr hq (by decide))⟩, ⟨ho.get h.job.box (ne_type h.job.box hq (by decide))⟩, owns_kept h.idx ho (fun k e x => ?_), owns_kept h.dead ho (fun k e x => ?_), h.new, h.cap⟩
 ·rcases e with e | e
  ·exact h.new k e
  ·omega
 ·obtain ⟨c, hh⟩ := own_blk h.idx e
  exact ne_type hh hq (by decide) x
 ·obtain ⟨c, hh⟩ := own_blk h.dead e
  exact ne_type hh hq (by decide) x
def OfPost (w : World) (ids : List Nat) (e : Ending) (w' : World) : Prop := ∃ v, e = .returned v /\ Quiet w w' /\ (∀ k, v.ownBlock = some k -> w.heap.size <= k) /\ w'.ownsRow 0 29 1 v ids.length (u64sV ids)
set_option maxHeartbeats 800000 in
theorem of_nil {w : World} {id c : Nat} {A : Option Addr} :
  Calls Tryz.prog 77 #[.int .u64 (id : Int), .slice A 0 c] w (OfPost w []) := by
 have HX : Hid (OfPost w [] (.returned (.slice none 0 0)) w) := ⟨_, rfl, Only.refl _ _, (fun k e => by cases e), World.ownsRow_nil _ _ _ _⟩
 obtain ⟨POST, hPOST⟩ : ∃ POST, OfPost w [] = POST := ⟨_, rfl⟩
 rw [hPOST] at HX ⊢
 clear hPOST
 go_enter Tryz.func77, Tryz.ntmps77
 go_wp2
 refine wp_loop_rounds 1 ?_
 rw [rounds_succ]
 go_wp2
 exact HX.out
set_option maxHeartbeats 2000000 in
theorem of_one {w wv : World} {v : Value} {e : IE} (h : IdxsW wv w v [e]) :
  Calls Tryz.prog 77 #[.int .u64 (e.table : Int), v] w (OfPost w [e.id]) := by
 obtain ⟨A, c, rfl, hc, hm, hrd⟩ := own_form h.own
 obtain ⟨b, o, rfl, hs, hcl⟩ := hrd.cells (by show 0 < (idxE e).length; exact (by decide : 0 < 6))
 have c0 := hcl 0 (.int .u64 (e.id : Int)) rfl
 have c1 := hcl 1 (.string e.name) rfl
 have c2 := hcl 2 (.int .u64 (e.table : Int)) rfl
 have c3 := hcl 3 (.int .i64 (e.column : Int)) rfl
 have c4 := hcl 4 (.int .u64 (e.xmin : Int)) rfl
 have c5 := hcl 5 (.int .u64 (e.xmax : Int)) rfl
 simp only [Nat.add_zero] at c0
 have lb := cell_lt c0
 dsimp only at lb
 have hq : Quiet w (w.alloc (.cells #[.int .u64 (e.id : Int), .string e.name, .int .u64 (e.table : Int), .int .i64 (e.column : Int), .int .u64 (e.xmin : Int), .int .u64 (e.xmax : Int)] 111)) := (Only.refl _ _).alloc _
 have h2 := alloc_new w (.cells #[.int .u64 (e.id : Int), .string e.name, .int .u64 (e.table : Int), .int .i64 (e.column : Int), .int .u64 (e.xmin : Int), .int .u64 (e.xmax : Int)] 111)
 obtain ⟨POST, hPOST⟩ : ∃ POST, OfPost w [e.id] = POST := ⟨_, rfl⟩
 rw [hPOST]
 have HPOST := Lib.hid hPOST
 obtain ⟨r2, hr2⟩ : ∃ r2, w.heap.size = r2 := ⟨_, rfl⟩
 rw [hr2] at h2
 clear hPOST h hrd hcl hs
 go_enter Tryz.func77, Tryz.ntmps77
 go_wp2
 refine wp_loop_rounds 2 ?_
 rw [rounds_succ]
 go_upto_region 5 with fail
 (try rw [hr2])
 generalize w.alloc (.cells #[.int .u64 (e.id : Int), .string e.name, .int .u64 (e.table : Int), .int .i64 (e.column : Int), .int .u64 (e.xmin : Int), .int .u64 (e.xmax : Int)] 111) = w1 at *
 clear c0 c1 c2 c3 c4 c5 lb
 have i0 := cell_of h2 0
 have i2 := cell_of h2 2
 simp only [zGA, zGS, zGZ] at i0 i2
 have lb := lt_of_get h2
 have hqn : Quiet w1 (w1.alloc (.cells (u64sV [e.id]).toArray 29)) := (Only.refl _ _).alloc _
 have HRD := Lib.hid (Rd.new w1 1 1 (u64sV [e.id]) 29 (fun _ => True) rfl trivial)
 have HQN := Lib.hid (hq.trans hqn)
 clear hq h2 hqn
 go_wp2_with (at_builtin; refine app elem_u64 rfl (.tmp 18) (.tmp 21) rfl rfl (World.ownsRow_nil _ _ _ _) rfl HRD.out (one_u64 [e.id]) (by unfold maxLen; omega) (by omega) ?_)
 intro v3 w3 hg
 have HEND : Hid (POST (.returned v3) w3) := by
  rw [<- HPOST.out]
  refine ⟨v3, rfl, HQN.out.trans (hg.only.mono (fun k _ e => by cases e)), fun k e => ?_, hg.own⟩
  rcases hg.loc with y | y
  ·rw [y] at e; cases e
  ·rw [y] at e; have e2 := Option.some.inj e; have := HQN.out.size; rw [<- e2]; exact this
 clear hg HRD
 go_wp2
 rw [rounds_succ]
 go_wp2
 exact HEND.out
end Go.Proofs.YthipgglplneijaaGreatDoor
