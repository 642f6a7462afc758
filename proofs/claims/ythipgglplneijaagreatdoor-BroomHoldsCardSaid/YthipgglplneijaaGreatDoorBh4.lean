/- A version that is got and put into a variable: what is left; rows as they are told. The rows that store.rows tells, by their IDs: the order, and the sort. store.rows. store.version of a version that is there. store.put where there is no index. store.Insert of a row of one small number. store.Update of a version that is there, to a row of one small number. store.Scan of a table whose rows are small numbers. Plain: what a stamp leaves at every place; the places of a heap. store.CreateTable of an empty book. A store in a law's world: what it holds, and what each call leaves. No condition. -/
import Derived.Test.YthipgglplneijaaGreatDoorBh3
import Derived.Maps.Range
import Derived.Shelf.SlIter.Collect
import Derived.BigFrameIn
set_option maxRecDepth 100000
namespace Go.Lap
structure RowM where
 id : Nat
 pg : Int
 sl : Int
 n : Nat
 A : Option Addr
 c : Nat
instance : Inhabited RowM := ⟨⟨0, 0, 0, 0, none, 0⟩⟩
def rowE (x : RowM) : List Value := [.int .u64 (x.id : Int), .int .i64 x.pg, .int .i64 x.sl, .slice x.A 1 x.c]
def rowC (x y : RowM) : Int := if x.id < y.id then -1 else if y.id < x.id then 1 else 0
abbrev rowsV (l : List RowM) : List Value := l.flatMap rowE
abbrev RowR := Nat × Int × Int × Nat
def RowM.told (x : RowM) : RowR := (x.id, x.pg, x.sl, x.n)
theorem rowE_len (x : RowM) : (rowE x).length = 4 := rfl
theorem rowE_one (x : RowM) : ∀ v ∈ rowE x, v.oneCell' = true := by
 intro v hv
 simp [rowE] at hv
 rcases hv with rfl | rfl | rfl | rfl <;> rfl
theorem rowsV_append (l m : List RowM) : rowsV (l ++ m) = rowsV l ++ rowsV m := List.flatMap_append
end Go.Lap
namespace Go.Proofs.YthipgglplneijaaGreatDoor
open Go.RowKit Go.Lap
def numOf (d : List Nat) : Nat := d.getD 1 0
theorem numOf_row (n : Nat) : numOf (rowI n) = n := by simp [numOf, rowI, smallN, List.range_succ]
theorem rowI_length (n : Nat) : (rowI n).length = 9 := by simp [rowI, smallN_length]
def seenAt (H : List (List (Option Tup))) (L : List Nat) (y : Snap) (a : Int × Int) : Option RowR :=
 match hGet H a.1 a.2 with
 | some t => if visS L y t.xmin t.xmax then some (t.row, a.1, a.2, numOf t.data) else none
 | none => none
def seenR (H : List (List (Option Tup))) (L : List Nat) (y : Snap) (l : List (Int × Int)) : List RowR := l.filterMap (seenAt H L y)
theorem seenR_snoc (H : List (List (Option Tup))) (L : List Nat) (y : Snap) (l : List (Int × Int)) (a : Int × Int) : seenR H L y (l ++ [a]) = seenR H L y l ++ (seenAt H L y a).toList := by
 unfold seenR
 rw [List.filterMap_append]
 cases h : seenAt H L y a <;> simp [h]
structure GotLeaf (wb W : World) (pt : Nat) (A : Option Addr) (c : Nat) (t : Tup) : Prop where
 quiet : Quiet wb W
 box : W.heap[pt]? = some (.cells (tupCells t A c) 95 (0, 0))
 new : wb.heap.size <= pt
 own : W.ownsRow 0 5 1 (.slice A t.data.length c) t.data.length (bytesV t.data)
 fresh : ∀ k, (Value.slice A t.data.length c).ownBlock = some k -> wb.heap.size <= k
theorem GotLeaf.cells {wb W : World} {pt : Nat} {A : Option Addr} {c : Nat} {t : Tup} (h : GotLeaf wb W pt A c t) : W.cell? ⟨pt, 0, none⟩ = some (.int .u64 t.row) /\ W.cell? ⟨pt, 1, none⟩ = some (.int .u64 t.xmin) /\ W.cell? ⟨pt, 2, none⟩ = some (.int .u64 t.xmax) /\ W.cell? ⟨pt, 3, none⟩ = some (.int .i64 t.pg) /\ W.cell? ⟨pt, 4, none⟩ = some (.int .i64 t.sl) /\ W.cell? ⟨pt, 5, none⟩ = some (.slice A t.data.length c) :=
 ⟨by rw [cell_of h.box]; rfl, by rw [cell_of h.box]; rfl, by rw [cell_of h.box]; rfl, by rw [cell_of h.box]; rfl, by rw [cell_of h.box]; rfl, by rw [cell_of h.box]; rfl⟩
theorem got_key {goal : Prop} {wb : World} {t : Tup} {G : Option Addr -> Nat -> Nat -> World -> Prop} (main : (∀ A c pt W, GotLeaf wb W pt A c t -> G A c pt W) -> goal) (key : ∀ A c pt W, GotLeaf wb W pt A c t -> G A c pt W) : goal := main key
theorem got_leaf {wb w1 : World} {pt c : Nat} {A : Option Addr} {t : Tup} {c0 c1 c2 c3 c4 c5 : Value} (hq : Quiet wb w1) (hb : w1.heap[pt]? = some (.cells #[c0, c1, c2, c3, c4, c5] 95 (0, 0))) (hn : wb.heap.size <= pt)
  (ho : w1.ownsRow 0 5 1 (.slice A t.data.length c) t.data.length (bytesV t.data)) (hf : ∀ k, (Value.slice A t.data.length c).ownBlock = some k -> wb.heap.size <= k) :
  GotLeaf wb (sixSet w1 pt (.int .u64 t.row) (.int .u64 t.xmin) (.int .u64 t.xmax) (.int .i64 t.pg) (.int .i64 t.sl) (.slice A t.data.length c)) pt A c t := by
 have h1 := sixSet_only w1 pt (.int .u64 t.row) (.int .u64 t.xmin) (.int .u64 t.xmax) (.int .i64 t.pg) (.int .i64 t.sl) (.slice A t.data.length c)
 refine ⟨hq.trans' h1 (fun k hk e => by omega), sixSet_same hb _ _ _ _ _ _, hn, owns_kept ho h1 (fun k e x => ?_), hf⟩
 obtain ⟨cs, hcs⟩ := own_blk ho e
 exact ne_type hcs hb (by decide) x
structure RowsW (w wr : World) (v : Value) (M : List RowM) : Prop where
 quiet : Quiet w wr
 new : ∀ k, v.ownBlock = some k -> w.heap.size <= k
 own : wr.ownsRow 0 45 4 v M.length (rowsV M)
 vals : ∀ m ∈ M, (∀ k, (Value.slice m.A 1 m.c).ownBlock = some k -> w.heap.size <= k) /\ wr.ownsRow 0 50 4 (.slice m.A 1 m.c) 1 (intRow m.n)
section
variable {w wr w' w3 w4 : World} {v v' : Value} {M : List RowM} {m : RowM}
theorem RowsW.start (h : Quiet w wr) : RowsW w wr (.slice none 0 0) [] := ⟨h, (fun k e => by cases e), World.ownsRow_nil _ _ _ _, (fun m hm => by cases hm)⟩
theorem RowsW.quietly (h : RowsW w wr v M) (hq : Quiet wr w') : RowsW w w' v M :=
 ⟨h.quiet.trans hq, h.new, owns_kept h.own hq (fun _ _ x => x), fun m hm => ⟨(h.vals m hm).1, owns_kept (h.vals m hm).2 hq (fun _ _ x => x)⟩⟩
theorem RowsW.from (h : RowsW w wr v M) {w0 : World} (hq : Quiet w0 w) : RowsW w0 wr v M :=
 ⟨hq.trans h.quiet, fun k e => Nat.le_trans hq.size (h.new k e), h.own, fun m hm => ⟨fun k e => Nat.le_trans hq.size ((h.vals m hm).1 k e), (h.vals m hm).2⟩⟩
theorem RowsW.valsOn (h : RowsW w wr v M) (ho : Only (fun k => v.ownBlock = some k) wr w') : ∀ m ∈ M, (∀ k, (Value.slice m.A 1 m.c).ownBlock = some k -> w.heap.size <= k) /\ w'.ownsRow 0 50 4 (.slice m.A 1 m.c) 1 (intRow m.n) := fun m hm =>
 ⟨(h.vals m hm).1, owns_kept (h.vals m hm).2 ho (fun k e x => by
   obtain ⟨c1, h1⟩ := own_blk (h.vals m hm).2 e
   obtain ⟨c2, h2⟩ := own_blk h.own x
   exact ne_type h1 h2 (by decide) rfl)⟩
theorem RowsW.push (h : RowsW w w3 v M) (hm : (∀ k, (Value.slice m.A 1 m.c).ownBlock = some k -> w.heap.size <= k) /\ w3.ownsRow 0 50 4 (.slice m.A 1 m.c) 1 (intRow m.n))
  (hg : Grew w3 w4 45 4 v v' (M.length + 1) (rowsV M ++ rowE m)) : RowsW w w4 v' (M ++ [m]) := by
 have hsz := h.quiet.size
 refine ⟨h.quiet.trans' hg.only (fun k hk e => by have := h.new k e; omega), fun k e => ?_, ?_, fun x hx => ?_⟩
 ·rcases hg.loc with y | y
  ·rw [y] at e; exact h.new k e
  ·rw [y] at e; injection e with e; omega
 ·have := hg.own
  rw [List.length_append, rowsV_append]
  have e1 : rowsV [m] = rowE m := by simp [rowsV]
  rw [e1]
  exact this
 ·rcases List.mem_append.1 hx with y | y
  ·exact h.valsOn hg.only x y
  ·simp at y
   subst y
   exact ⟨hm.1, owns_kept hm.2 hg.only (fun k e z => by
     obtain ⟨c1, h1⟩ := own_blk hm.2 e
     obtain ⟨c2, h2⟩ := own_blk h.own z
     exact ne_type h1 h2 (by decide) rfl)⟩
theorem RowsW.sorted {M' : List RowM} (h : RowsW w wr v M) (hp : M'.Perm M) (ho : Only (fun k => v.ownBlock = some k) wr w') (hw : w'.ownsRow 0 45 4 v M.length (rowsV M')) : RowsW w w' v M' := by
 have hsz := h.quiet.size
 refine ⟨h.quiet.trans' ho (fun k hk e => by have := h.new k e; omega), h.new, ?_, fun m hm => h.valsOn ho m (hp.mem_iff.1 hm)⟩
 rw [hp.length_eq]
 exact hw
end
def RowsPost (w : World) (R : List RowR) (e : Ending) (w' : World) : Prop :=
 ∃ v M, e = .returned v /\ RowsW w w' v M /\ (M.map RowM.told).Perm R /\ M.Pairwise (fun a b => a.id <= b.id)
theorem elem_row : Elem Tryz.prog 39 45 4 48 := Elem.mk' (.agg #[.int .u64 0, .int .i64 0, .int .i64 0, .slice none 0 0]) Tryz.underlying39 (by kernel_rfl) rfl (by decide)
end Go.Proofs.YthipgglplneijaaGreatDoor
namespace Go.Lap
theorem rowLt (x y : RowM) : Go.Proofs.ltOf rowC x y = decide (x.id < y.id) := by
 unfold Go.Proofs.ltOf rowC
 rw [decide_eq_decide]
 split
 ·omega
 ·split <;> omega
theorem rowSwo : Go.Sort.SWO (Go.Proofs.ltOf rowC) where
 irrefl x := by rw [rowLt]; simp
 trans x y z h1 h2 := by rw [rowLt] at *; simp at *; omega
 ntrans x y z h1 h2 := by rw [rowLt] at *; simp at *; omega
end Go.Lap
namespace Go.Proofs.YthipgglplneijaaGreatDoor
open Go.RowKit Go.Lap Go.Sort Go.Shelf
theorem nan_u64 (x : Nat) (w : World) : Calls Tryz.prog 111 #[.int .u64 (x : Int)] w fun e w' => e = .returned (.bool false) /\ w = w' := by
 go_enter Tryz.func111, Tryz.ntmps111
 go_wp2
 go_ret
 exact ⟨by simp, rfl⟩
theorem compare_u64 (x y : Nat) (w : World) : Calls Tryz.prog 67 #[.int .u64 (x : Int), .int .u64 (y : Int)] w fun e w' => e = .returned (.int .i64 (if x < y then -1 else if y < x then 1 else 0)) /\ w = w' := by
 by_cases h1 : x < y
 ·rw [if_pos h1]
  go_enter Tryz.func67, Tryz.ntmps67
  go_wp2_with fail
  refine (nan_u64 _ _).mono ?_
  rintro e w1 ⟨rfl, rfl⟩
  go_wp2_with fail
  refine (nan_u64 _ _).mono ?_
  rintro e w1 ⟨rfl, rfl⟩
  go_wp2
  go_ret
  exact ⟨rfl, rfl⟩
 ·rw [if_neg h1]
  by_cases h2 : y < x
  ·rw [if_pos h2]
   go_enter Tryz.func67, Tryz.ntmps67
   go_wp2_with fail
   refine (nan_u64 _ _).mono ?_
   rintro e w1 ⟨rfl, rfl⟩
   go_wp2_with fail
   refine (nan_u64 _ _).mono ?_
   rintro e w1 ⟨rfl, rfl⟩
   go_wp2
   go_ret
   exact ⟨rfl, rfl⟩
  ·rw [if_neg h2]
   obtain rfl : x = y := by omega
   go_enter Tryz.func67, Tryz.ntmps67
   go_wp2_with fail
   refine (nan_u64 _ _).mono ?_
   rintro e w1 ⟨rfl, rfl⟩
   go_wp2_with fail
   refine (nan_u64 _ _).mono ?_
   rintro e w1 ⟨rfl, rfl⟩
   go_wp2
   go_ret
   exact ⟨rfl, rfl⟩
set_option maxHeartbeats 1000000 in
theorem row_cmp (x y : RowM) (W : World) : Calls Tryz.prog 66 #[.agg (rowE x).toArray, .agg (rowE y).toArray] W fun e w' => e = .returned (.int .i64 (rowC x y)) /\ ∃ q os', w' = Go.Sort.grow (W.drewN q) os' := by
 show Calls Tryz.prog 66 #[.agg #[.int .u64 (x.id : Int), .int .i64 x.pg, .int .i64 x.sl, .slice x.A 1 x.c], .agg #[.int .u64 (y.id : Int), .int .i64 y.pg, .int .i64 y.sl, .slice y.A 1 y.c]] W fun e w' => e = .returned (.int .i64 (rowC x y)) /\ ∃ q os', w' = Go.Sort.grow (W.drewN q) os'
 obtain ⟨z, hz⟩ : ∃ z, rowC x y = z := ⟨_, rfl⟩
 rw [hz]
 have HC : Hid (z = if x.id < y.id then -1 else if y.id < x.id then 1 else 0) := hz.symm
 clear hz
 go_enter Tryz.func66, Tryz.ntmps66
 go_wp2_with fail
 refine (compare_u64 _ _ _).mono ?_
 rintro e w1 ⟨rfl, rfl⟩
 rw [<- HC.out]
 go_wp2
 go_ret
 exact ⟨rfl, 0, _, by rw [alloc_eq_grow, alloc_eq_grow, grow_grow]; rfl⟩
theorem sort_rows (v : Value) (l : List RowM) (w : World) (hown : w.ownsRow 0 45 4 v l.length (rowsV l)) (hl : l.length < 4611686018427387904) :
  Calls Tryz.prog 65 #[v, .func (.func 66) #[] #[]] w fun e w' => e = .returned (.tuple #[]) /\ ∃ l' : List RowM, l'.Perm l /\ l'.Pairwise (fun a b => a.id <= b.id) /\ w'.ownsRow 0 45 4 v l.length (rowsV l') /\ Only (fun k => v.ownBlock = some k) w w' := by
 have eg : ∀ args w, (callFunc 66 args).run Tryz.prog w = .ok (.enter 66 args) w := enters_of Tryz.func66 (by kernel_rfl) rfl
 have h := sort_own Tryz.sortRows 4 Tryz.isAgg45 Tryz.sizeOf45 rowE rowE_len rowE_one rowC rowSwo 66 eg row_cmp 45 v l w hown hl
 change Calls Tryz.prog 65 _ _ _ at h
 refine h.mono ?_
 rintro e w' ⟨rfl, l', hp, hs, ho, hon⟩
 refine ⟨rfl, l', hp, hs.imp ?_, ho, hon⟩
 intro a b hab
 rw [rowLt] at hab
 have := of_decide_eq_false hab
 omega
end Go.Proofs.YthipgglplneijaaGreatDoor
namespace Go.Proofs.YthipgglplneijaaGreatDoor
open Go.RowKit Go.Lap
theorem place_cells {w : World} {S : Nat -> Prop} {A : Option Addr} {n i : Nat} {ps : List (Int × Int)} {p : Int × Int} (h : Rd w S 2 A n (tidsV ps)) (hi : ps[i]? = some p) :
  ∃ b off, A = some ⟨b, off, none⟩ /\ S b /\ w.cell? ⟨b, off + i * 2, none⟩ = some (.int .i64 p.1) /\ w.cell? ⟨b, off + i * 2 + 1, none⟩ = some (.int .i64 p.2) := by
 obtain ⟨h1, h2⟩ := tidsV_get hi
 have hl := (List.getElem?_eq_some_iff.1 h1).1
 obtain ⟨b, off, e, hs, hc⟩ := h.cells (by omega)
 exact ⟨b, off, e, hs, hc _ _ h1, by have := hc _ _ h2; rw [<- Nat.add_assoc] at this; exact this⟩
theorem FreshV.from9 {W w9 w10 : World} {v : Value} {n : Nat} (hq : Quiet W w9) (hf : FreshV w9 w10 v n) : FreshV W w10 v n := ⟨hq.trans hf.quiet, fun k e => Nat.le_trans hq.size (hf.new k e), hf.own⟩
theorem look_heap {W : World} {mh hb id : Nat} {fh : Nat -> Option Value} (h : MapF W mh fh) (hf : fh id = some (ptrV hb)) (hid : U64 id) : (Instr.lookup 63 (.map (some mh)) (.int .u64 (id : Int)) false).run Tryz.prog W = .ok (ptrV hb) W := by
 have := h.lookup Tryz.underlying63 Tryz.underlying29 false (zero_heapP _) hid
 rw [hf] at this
 simpa using this
theorem tabBox_cells {w : World} {b c : Nat} {t : TE} {A : Option Addr} (h : w.heap[b]? = some (.cells #[.int .u64 (t.id : Int), .string t.name, .slice A t.cols.length c, .int .u64 (t.xmin : Int), .int .u64 (t.xmax : Int)] 83 (0, 0))) :
  w.cell? ⟨b, 0, none⟩ = some (.int .u64 (t.id : Int)) /\ w.cell? ⟨b, 1, none⟩ = some (.string t.name) /\ w.cell? ⟨b, 2, none⟩ = some (.slice A t.cols.length c) /\ w.cell? ⟨b, 3, none⟩ = some (.int .u64 (t.xmin : Int)) /\ w.cell? ⟨b, 4, none⟩ = some (.int .u64 (t.xmax : Int)) :=
 ⟨by rw [cell_of h]; rfl, by rw [cell_of h]; rfl, by rw [cell_of h]; rfl, by rw [cell_of h]; rfl, by rw [cell_of h]; rfl⟩
theorem seen_take {H : List (List (Option Tup))} {L : List Nat} {y : Snap} {l : List (Int × Int)} {k : Nat} {a : Int × Int} (h : l[k]? = some a) : seenR H L y (l.take (k + 1)) = seenR H L y (l.take k) ++ (seenAt H L y a).toList := by
 rw [List.take_add_one, h]
 exact seenR_snoc H L y (l.take k) a
set_option maxHeartbeats 4000000 in
theorem store_rows {w : World} {sb cy c2 c3 : Nat} {o : Nat -> Nat} {s : St} {y : Snap} {t : TE} {nm : ByteArray} {Sy Sc Sl : Nat -> Prop} {A A2 A3 : Option Addr} {H : List (List (Option Tup))} {l : List (Int × Int)} (h : StoreAt w sb o s) (hs : SnapV w Sy A cy y) (ht : t.cols = [(nm, 1)]) (hid : U64 t.id)
  (hr : Rd w Sc 2 A2 t.cols.length (colsV t.cols)) (hc2 : t.cols.length <= c2) (hm2 : c2 <= maxLen) (hH : s.hs t.id = some H) (hl : Rd w Sl 2 A3 l.length (tidsV l)) (hlm : l.length <= 1000000)
  (hg : ∀ a ∈ l, ∃ v, hGet H a.1 a.2 = some v /\ U64 v.xmin /\ U64 v.xmax /\ (visS s.L y v.xmin v.xmax = true -> ∃ n, n < 256 /\ v.data = rowI n)) :
  Calls Tryz.prog 33 #[ptrV sb, snapV y A cy, tabV t A2 c2, .slice A3 l.length c3] w (RowsPost w (seenR H s.L y l)) := by
 obtain ⟨lb, bb, pb, mh, mt, ms, fh, ft, fs, h⟩ := h
 obtain ⟨hb, hf, hp⟩ := h.heaps.2 t.id H hH
 have HH := Lib.hid h
 have HP := Lib.hid hp
 have HF := Lib.hid hf
 have HS := Lib.hid hs
 have HR := Lib.hid hr
 have HLD := Lib.hid hl
 have HG := Lib.hid hg
 have HID := Lib.hid hid
 have HC2 := Lib.hid (And.intro hc2 hm2)
 have HT := Lib.hid ht
 have HQ0 : Hid (Quiet w ((w.alloc (.cells (snapCells y A cy) 73)).alloc (.cells #[.int .u64 (t.id : Int), .string t.name, .slice A2 t.cols.length c2, .int .u64 (t.xmin : Int), .int .u64 (t.xmax : Int)] 83))) := ((Only.refl _ _).alloc _).alloc _
 have HB5 := Lib.hid (alloc_old (alloc_new w (.cells (snapCells y A cy) 73)) (.cells #[.int .u64 (t.id : Int), .string t.name, .slice A2 t.cols.length c2, .int .u64 (t.xmin : Int), .int .u64 (t.xmax : Int)] 83))
 have HB6 := Lib.hid (two_new w (.cells (snapCells y A cy) 73) (.cells #[.int .u64 (t.id : Int), .string t.name, .slice A2 t.cols.length c2, .int .u64 (t.xmin : Int), .int .u64 (t.xmax : Int)] 83))
 have hsz : ((w.alloc (.cells (snapCells y A cy) 73)).alloc (.cells #[.int .u64 (t.id : Int), .string t.name, .slice A2 t.cols.length c2, .int .u64 (t.xmin : Int), .int .u64 (t.xmax : Int)] 83)).heap.size = w.heap.size + 1 + 1 := by simp
 obtain ⟨r5, hr5⟩ : ∃ r5, w.heap.size = r5 := ⟨_, rfl⟩
 obtain ⟨r6, hr6⟩ : ∃ r6, r5 + 1 = r6 := ⟨_, rfl⟩
 rw [hr5] at HB5 HB6 hsz
 rw [hr6] at HB6 hsz
 obtain ⟨n, hn⟩ : ∃ n, l.length = n := ⟨_, rfl⟩
 have HN := Lib.hid hn
 obtain ⟨POST, hPOST⟩ : ∃ POST, RowsPost w (seenR H s.L y l) = POST := ⟨_, rfl⟩
 rw [hPOST, hn]
 have HPOST := Lib.hid hPOST
 have hnm : n <= 1000000 := by omega
 clear h hs hr hl hg hp hf hH hc2 hm2 ht hid hlm hn hPOST
 unfold snapV tabV
 go_enter Tryz.func33, Tryz.ntmps33
 go_wp2_with fail
 (try simp only [World.size_alloc] at *)
 (try rw [hr5]); (try rw [hr6])
 generalize (w.alloc (.cells #[.int .u64 (y.own : Int), .int .u64 (y.xmin : Int), .int .u64 (y.xmax : Int), .slice A y.run.length cy] 73)).alloc (.cells #[.int .u64 (t.id : Int), .string t.name, .slice A2 t.cols.length c2, .int .u64 (t.xmin : Int), .int .u64 (t.xmax : Int)] 83) = W0 at *
 go_loopw [18, 9, 11, 12, 13, 14, 15] (fun i v _ _ _ _ _ wr => ∃ (k : Nat) (v' : Value) (M : List RowM), k <= n /\ i = .int .i64 (k : Int) /\ v = v' /\ RowsW W0 wr v' M /\ M.map RowM.told = seenR H s.L y (l.take k)) (fun i _ _ _ _ _ _ _ => n - (intOf i).toNat)
 case atStart => exact ⟨0, _, [], Nat.zero_le _, rfl, rfl, RowsW.start (Only.refl _ _), rfl⟩
 case round =>
  obtain ⟨k, v', M, hk, rfl, rfl, hW, hM⟩ := hrel
  have HW := Lib.hid hW
  have HM := Lib.hid hM
  clear hW hM
  by_cases hlt : k < n
  ·obtain ⟨⟨pg, sl⟩, ha⟩ : ∃ a, l[k]? = some a := ⟨_, List.getElem?_eq_getElem (by have := HN.out; omega)⟩
   obtain ⟨v, hgv, hx1, hx2, hvis⟩ := HG.out (pg, sl) (List.mem_of_getElem? ha)
   have HQr : Hid (Quiet w wr) := HQ0.out.trans HW.out.quiet
   obtain ⟨bl, ofl, rfl, _, la, lb2⟩ := place_cells (HLD.out.kept HQr.out (fun _ _ x => x)) ha
   have HV1 := Lib.hid (And.intro hx1 hx2)
   have HVIS0 := Lib.hid hvis
   have HGV := Lib.hid hgv
   have HA := Lib.hid ha
   have hqb : Quiet wr (wr.alloc (.cells #[.int .i64 pg, .int .i64 sl] 43)) := (Only.refl _ _).alloc _
   have hat := alloc_new wr (.cells #[.int .i64 pg, .int .i64 sl] 43)
   obtain ⟨at_, hat_⟩ : ∃ at_, wr.heap.size = at_ := ⟨_, rfl⟩
   dsimp only at la lb2
   clear ha hgv hx1 hx2 hvis
   go_wp2_with fail
   (try rw [hat_] at hat)
   (try rw [hat_])
   generalize wr.alloc (.cells #[.int .i64 pg, .int .i64 sl] 43) = wb at *
   have HQb : Hid (Quiet w wb) := HQr.out.trans hqb
   have HWb := Lib.hid (HW.out.quietly hqb)
   have HAT := Lib.hid hat
   clear la lb2 hat hqb hat_
   have HS5 : Hid (∀ W, Quiet wb W -> (fun w' => w'.cell? ⟨sb, 3, none⟩ = some (.map (some mh)) /\ w'.cell? ⟨r6, 0, none⟩ = some (.int .u64 (t.id : Int)) /\ w'.cell? ⟨at_, 0, none⟩ = some (.int .i64 pg) /\ w'.cell? ⟨at_, 1, none⟩ = some (.int .i64 sl) /\ (Instr.lookup 63 (.map (some mh)) (.int .u64 (t.id : Int)) false).run Tryz.prog w' = .ok (ptrV hb) w') W) := fun W hq => by
    have hq2 := HQb.out.trans hq
    have h2 := HH.out.quietly hq2
    have b6 := hq.get (HWb.out.quiet.get HB6.out (fun x => x)) (fun x => x)
    have b7 := hq.get HAT.out (fun x => x)
    exact ⟨h2.cells.2.2.2.1, (tabBox_cells b6).1, by rw [cell_of b7]; rfl, by rw [cell_of b7]; rfl, look_heap h2.mH HF.out HID.out⟩
   have HGET : Hid (∀ W, Quiet wb W -> Calls Tryz.prog 44 #[ptrV hb, .agg #[.int .i64 pg, .int .i64 sl]] W (GetSome W v)) := fun W hq => heap_get_some pg sl v (HP.out.kept (HQb.out.trans hq) (fun _ _ x => x)) HGV.out
   apply got_key (wb := wb) (t := v)
   case main =>
         intro KEY
         refine zH HS5 (Only.refl _ _).drew (fun hHeld => ?_)
         simp only [List.size_toArray, List.length_cons, List.length_nil, Nat.reduceAdd]
         have q0 : Quiet wb wb.drew := (Only.refl _ _).drew
         generalize wb.drew = d0 at q0 hHeld ⊢
         refine zT 0 ?_
         refine zT 1 ?_
         refine zT 2 ?_
         refine zT 3 ?_
         refine zT 4 ?_
         refine zT 5 ?_
         refine zT 6 ?_
         refine zT 7 ?_
         refine wpAnyH_ready (rs := [8, 12]) (by kernel_rfl) (by simp) ?_
         refine zA ?_ ?_
         · intro K hK
           go_simp
           go_at_call 44
           refine (HGET.out _ q0).mono ?_
           rintro e d2 ⟨A4, c4, rfl, hf4⟩
           have q2 := q0.trans hf4.quiet
           have hown := hf4.own
           have hfn : ∀ k, (Value.slice A4 v.data.length c4).ownBlock = some k -> wb.heap.size <= k := fun k e => Nat.le_trans (q0).size (hf4.new k e)
           clear hf4
           unfold tupV
           dsimp only
           refine hK.out _ _ ?_ (fun hHeld => ?_)
           · exact HS5.out _ q2
           clear hK K
           (try simp only [Act.put, zPA, zPZ, zPS])
           refine zT 9 ?_
           refine zT 10 ?_
           refine zT 11 ?_
           refine zR 12 ?_
           intro K hK
           go_simp
           refine hK.out _ _ ?_ (fun hHeld => ?_)
           · exact HS5.out _ (q2.alloc _)
           clear hK K
           (try simp only [Act.put, zPA, zPZ, zPS])
           have qd3 : Quiet wb (d2.alloc (.cells #[.int .u64 0, .int .u64 0, .int .u64 0, .int .i64 0, .int .i64 0, .slice none 0 0] 95)) := q2.alloc _
           have hb1 := alloc_new d2 (.cells #[.int .u64 0, .int .u64 0, .int .u64 0, .int .i64 0, .int .i64 0, .slice none 0 0] 95)
           have hnp : wb.heap.size <= d2.heap.size := q2.size
           have hown := owns_kept hown ((Only.refl (fun _ => False) d2).alloc (.cells #[.int .u64 0, .int .u64 0, .int .u64 0, .int .i64 0, .int .i64 0, .slice none 0 0] 95)) (fun _ _ x => x)
           obtain ⟨pt, hpt⟩ : ∃ pt, d2.heap.size = pt := ⟨_, rfl⟩
           rw [hpt] at hb1 hnp ⊢
           generalize d2.alloc (.cells #[.int .u64 0, .int .u64 0, .int .u64 0, .int .i64 0, .int .i64 0, .slice none 0 0] 95) = d3 at *
           clear hpt
           have z0 := cell_of hb1 0
           have z1 := cell_of hb1 1
           have z2 := cell_of hb1 2
           have z3 := cell_of hb1 3
           have z4 := cell_of hb1 4
           have z5 := cell_of hb1 5
           have zf := fun o => frozen_of hb1 o
           simp only [zGA, zGS, zGZ] at z0 z1 z2 z3 z4 z5
           refine zR 13 ?_
           intro K hK
           go_simp
           refine hK.out _ _ ?_ (fun hHeld => ?_)
           · exact HS5.out _ (got_leaf qd3 hb1 hnp hown hfn).quiet
           clear hK K
           (try simp only [Act.put, zPA, zPZ, zPS])
           have HG := got_leaf qd3 hb1 hnp hown hfn
           unfold sixSet at HG
           refine zT 14 ?_
           refine wpAnyH_done (by kernel_rfl) ?_ _
           generalize ((((((d3.setCell ⟨pt, 0, none⟩ (.int .u64 v.row)).setCell ⟨pt, 1, none⟩ (.int .u64 v.xmin)).setCell ⟨pt, 2, none⟩ (.int .u64 v.xmax)).setCell ⟨pt, 3, none⟩ (.int .i64 v.pg)).setCell ⟨pt, 4, none⟩ (.int .i64 v.sl)).setCell ⟨pt, 5, none⟩ (.slice A4 v.data.length c4)) = WF at HG ⊢
           exact KEY _ _ _ _ HG
         refine zA ?_ AllReadyH.nil
         intro K hK
         go_simp
         refine hK.out _ _ ?_ (fun hHeld => ?_)
         · exact HS5.out _ (q0.alloc _)
         clear hK K
         (try simp only [Act.put, zPA, zPZ, zPS])
         have qd1 : Quiet wb (d0.alloc (.cells #[.int .u64 0, .int .u64 0, .int .u64 0, .int .i64 0, .int .i64 0, .slice none 0 0] 95)) := q0.alloc _
         have hb1 := alloc_new d0 (.cells #[.int .u64 0, .int .u64 0, .int .u64 0, .int .i64 0, .int .i64 0, .slice none 0 0] 95)
         have hnp : wb.heap.size <= d0.heap.size := q0.size
         obtain ⟨pt, hpt⟩ : ∃ pt, d0.heap.size = pt := ⟨_, rfl⟩
         rw [hpt] at hb1 hnp ⊢
         generalize d0.alloc (.cells #[.int .u64 0, .int .u64 0, .int .u64 0, .int .i64 0, .int .i64 0, .slice none 0 0] 95) = d1 at *
         clear hpt
         refine zR 8 ?_
         intro K hK
         go_simp
         go_at_call 44
         refine (HGET.out _ qd1).mono ?_
         rintro e d2 ⟨A4, c4, rfl, hf4⟩
         have q2 := qd1.trans hf4.quiet
         have hb2 := hf4.quiet.get hb1 (fun x => x)
         have hown := hf4.own
         have hfn : ∀ k, (Value.slice A4 v.data.length c4).ownBlock = some k -> wb.heap.size <= k := fun k e => Nat.le_trans (qd1).size (hf4.new k e)
         clear hf4
         unfold tupV
         dsimp only
         refine hK.out _ _ ?_ (fun hHeld => ?_)
         · exact HS5.out _ q2
         clear hK K
         (try simp only [Act.put, zPA, zPZ, zPS])
         have z0 := cell_of hb2 0
         have z1 := cell_of hb2 1
         have z2 := cell_of hb2 2
         have z3 := cell_of hb2 3
         have z4 := cell_of hb2 4
         have z5 := cell_of hb2 5
         have zf := fun o => frozen_of hb2 o
         simp only [zGA, zGS, zGZ] at z0 z1 z2 z3 z4 z5
         refine zT 9 ?_
         refine zT 10 ?_
         refine zT 11 ?_
         refine zR 13 ?_
         intro K hK
         go_simp
         refine hK.out _ _ ?_ (fun hHeld => ?_)
         · exact HS5.out _ (got_leaf q2 hb2 hnp hown hfn).quiet
         clear hK K
         (try simp only [Act.put, zPA, zPZ, zPS])
         have HG := got_leaf q2 hb2 hnp hown hfn
         unfold sixSet at HG
         refine zT 14 ?_
         refine wpAnyH_done (by kernel_rfl) ?_ _
         generalize ((((((d2.setCell ⟨pt, 0, none⟩ (.int .u64 v.row)).setCell ⟨pt, 1, none⟩ (.int .u64 v.xmin)).setCell ⟨pt, 2, none⟩ (.int .u64 v.xmax)).setCell ⟨pt, 3, none⟩ (.int .i64 v.pg)).setCell ⟨pt, 4, none⟩ (.int .i64 v.sl)).setCell ⟨pt, 5, none⟩ (.slice A4 v.data.length c4)) = WF at HG ⊢
         exact KEY _ _ _ _ HG
   case key =>
    intro A4 c4 pt W HL0
    have HL := Lib.hid HL0
    clear HL0 HS5 HGET
    have HQW : Hid (Quiet w W) := HQb.out.trans HL.out.quiet
    have HWW := Lib.hid (HWb.out.quietly HL.out.quiet)
    have HS6 : Hid (∀ W', Quiet W W' -> (fun w' => w'.cell? ⟨sb, 0, none⟩ = some (ptrV lb) /\ w'.cell? ⟨r5, 0, none⟩ = some (.int .u64 (y.own : Int)) /\ w'.cell? ⟨r5, 1, none⟩ = some (.int .u64 (y.xmin : Int)) /\ w'.cell? ⟨r5, 2, none⟩ = some (.int .u64 (y.xmax : Int)) /\ w'.cell? ⟨r5, 3, none⟩ = some (.slice A y.run.length cy) /\ w'.cell? ⟨pt, 0, none⟩ = some (.int .u64 v.row) /\ w'.cell? ⟨pt, 1, none⟩ = some (.int .u64 v.xmin) /\ w'.cell? ⟨pt, 2, none⟩ = some (.int .u64 v.xmax) /\ w'.cell? ⟨pt, 3, none⟩ = some (.int .i64 v.pg) /\ w'.cell? ⟨pt, 4, none⟩ = some (.int .i64 v.sl) /\ w'.cell? ⟨pt, 5, none⟩ = some (.slice A4 v.data.length c4)) W') := fun W' hq => by
     have b5 := hq.get (HWW.out.quiet.get HB5.out (fun x => x)) (fun x => x)
     have bt := hq.get HL.out.box (fun x => x)
     have hsn := snapBox_cells b5
     refine ⟨((HH.out.quietly HQW.out).quietly hq).cells.1, hsn.1, hsn.2.1, hsn.2.2.1, hsn.2.2.2, ?_, ?_, ?_, ?_, ?_, ?_⟩ <;> (rw [cell_of bt]; rfl)
    obtain ⟨r, hrv⟩ : ∃ r, visS s.L y v.xmin v.xmax = r := ⟨_, rfl⟩
    have HRV := Lib.hid hrv
    have HVIS : Hid (∀ W', Quiet W W' -> Calls Tryz.prog 63 #[ptrV lb, snapV y A cy, tupV v A4 c4] W' (BoolQ W' r)) := fun W' hq => by
     rw [<- HRV.out]
     have hq2 := HQW.out.trans hq
     exact snap_visible v A4 c4 (HH.out.quietly hq2).log (HS.out.kept hq2 (fun _ _ x => x)) HV1.out.1 HV1.out.2
    unfold snapV tupV at HVIS
    clear hrv
    go_wp2_with fail
    refine zH HS6 (Only.refl _ _).drew (fun hHeld => ?_)
    simp only [List.size_toArray, List.length_cons, List.length_nil, Nat.reduceAdd]
    have q6 : Quiet W W.drew := (Only.refl _ _).drew
    generalize W.drew = d6 at q6 hHeld ⊢
    refine zT 0 ?_
    refine zT 1 ?_
    refine zT 2 ?_
    refine zT 3 ?_
    refine zT 4 ?_
    refine zT 5 ?_
    refine zT 6 ?_
    refine zT 7 ?_
    refine zR 8 ?_
    intro K hK
    go_simp
    go_at_call 63
    refine (HVIS.out _ q6).mono ?_
    rintro e d7 ⟨rfl, hq7⟩
    have q7 := q6.trans hq7
    clear hq7
    dsimp only
    refine hK.out _ _ ?_ (fun hHeld => ?_)
    ·exact HS6.out _ q7
    clear hK K
    (try simp only [Act.put, zPA, zPZ, zPS])
    refine zT 9 ?_
    refine wpAnyH_done (by kernel_rfl) ?_ _
    clear hHeld
    rcases r with _ | _
    ·have HTK : Hid (M.map RowM.told = seenR H s.L y (l.take (k + 1))) := by
      show _ = _
      rw [seen_take HA.out, HM.out]
      have : seenAt H s.L y (pg, sl) = none := by
       unfold seenAt
       rw [HGV.out]
       simp [HRV.out]
      rw [this]
      simp
     have HEND := Lib.hid (HWW.out.quietly q7)
     clear q7 q6
     go_wp2
     go_roundw
     case rel => exact ⟨k + 1, _, M, by omega, by go_num, rfl, HEND.out, HTK.out⟩
     case measure => simp [intOf]; omega
    ·obtain ⟨x, hx, hdat⟩ := HVIS0.out HRV.out
     have hd9 : v.data.length = 9 := by rw [hdat]; exact rowI_length x
     have HTK : Hid (seenAt H s.L y (pg, sl) = some (v.row, pg, sl, x)) := by
      unfold Hid seenAt
      rw [HGV.out]
      simp only [HRV.out, if_true]
      rw [hdat, numOf_row]
     have HW7 := Lib.hid (HWW.out.quietly q7)
     have HQ7 : Hid (Quiet w d7) := HQW.out.trans q7
     have HBT := Lib.hid (q7.get HL.out.box (fun x => x))
     have HAT7 := Lib.hid (q7.get (HL.out.quiet.get HAT.out (fun x => x)) (fun x => x))
     obtain ⟨A', c', e', hc4, hm4, hrd4⟩ := own_form HL.out.own
     injection e' with e1 _ e2
     subst e1 e2
     rw [hd9] at hc4
     have HDC := Lib.hid (And.intro hc4 hm4)
     have HDAT : Hid (∀ W', Quiet d7 W' -> Rd W' (fun _ => True) 1 A4 9 (bytesV (rowI x))) := fun W' hq => by
      have := (hrd4.kept (q7.trans hq) (fun _ _ x => x)).mono (T := fun _ => True) (fun _ _ => trivial)
      rw [hd9, hdat] at this
      exact this
     have HKND : Hid (∀ W', Quiet d7 W' -> Calls Tryz.prog 29 #[tabV t A2 c2] W' (KindsPost W' 1)) := fun W' hq => by
      have h2 := HR.out.kept (HQ7.out.trans hq) (fun _ _ x => x)
      have h3 := HC2.out
      rw [HT.out] at h2 h3
      exact store_kinds HT.out h2 h3.1 h3.2
     have HS7 : Hid (∀ W', Quiet d7 W' -> (fun w' => w'.cell? ⟨r6, 0, none⟩ = some (.int .u64 (t.id : Int)) /\ w'.cell? ⟨r6, 1, none⟩ = some (.string t.name) /\ w'.cell? ⟨r6, 2, none⟩ = some (.slice A2 t.cols.length c2) /\ w'.cell? ⟨r6, 3, none⟩ = some (.int .u64 (t.xmin : Int)) /\ w'.cell? ⟨r6, 4, none⟩ = some (.int .u64 (t.xmax : Int)) /\ w'.cell? ⟨pt, 5, none⟩ = some (.slice A4 v.data.length c4)) W') := fun W' hq => by
      have b6 := tabBox_cells (hq.get (HW7.out.quiet.get HB6.out (fun x => x)) (fun x => x))
      have bt := hq.get HBT.out (fun x => x)
      exact ⟨b6.1, b6.2.1, b6.2.2.1, b6.2.2.2.1, b6.2.2.2.2, by rw [cell_of bt]; rfl⟩
     unfold tabV at HKND
     have HX := Lib.hid hx
     have HD9 := Lib.hid hd9
     clear hc4 hm4 hrd4 hdat q7 q6 hx HS6 HVIS
     go_wp2_with fail
     refine zH HS7 (Only.refl _ _).drew (fun hHeld => ?_)
     simp only [List.size_toArray, List.length_cons, List.length_nil, Nat.reduceAdd]
     have q8 : Quiet d7 d7.drew := (Only.refl _ _).drew
     generalize d7.drew = d8 at q8 hHeld ⊢
     refine zT 0 ?_
     refine zT 2 ?_
     refine zT 3 ?_
     refine zR 1 ?_
     intro K hK
     go_simp
     go_at_call 29
     refine (HKND.out _ q8).mono ?_
     rintro e d9 ⟨v9, rfl, hf9⟩
     have q9 := q8.trans hf9.quiet
     obtain ⟨A9, c9, rfl, hc9, hm9, hrd9⟩ := own_form hf9.own
     clear hf9
     dsimp only
     refine hK.out _ _ ?_ (fun hHeld => ?_)
     ·exact HS7.out _ q9
     clear hK K
     (try simp only [Act.put, zPA, zPZ, zPS])
     refine zR 4 ?_
     intro K hK
     go_simp
     go_at_call 64
     (try rw [HD9.out])
     refine (row_read_int HX.out (by exact hrd9) (HDAT.out _ q9) hc9 hm9 HDC.out.1 HDC.out.2).mono ?_
     rintro e d10 ⟨v10, rfl, hf10⟩
     have q10 := q9.trans hf10.quiet
     have hfv := FreshV.from9 q9 hf10
     clear hf10
     dsimp only
     refine hK.out _ _ ?_ (fun hHeld => ?_)
     ·exact HS7.out _ q10
     clear hK K
     (try simp only [Act.put, zPA, zPZ, zPS])
     refine zT 5 ?_
     refine zT 6 ?_
     refine zT 7 ?_
     refine zT 8 ?_
     refine zT 9 ?_
     refine wpAnyH_done (by kernel_rfl) ?_ _
     clear hHeld q8 q9 q10 hrd9 hc9 hm9
     obtain ⟨A10, c10, rfl, hc10, hm10, _⟩ := own_form hfv.own
     have HW10 := Lib.hid (HW7.out.quietly hfv.quiet)
     have HRD := Lib.hid (Rd.new d10 4 1 (rowE ⟨v.row, pg, sl, x, A10, c10⟩) 45 (fun _ => True) rfl trivial)
     have HW11 := Lib.hid (HW10.out.quietly ((Only.refl (fun _ => False) d10).alloc (.cells (rowE ⟨v.row, pg, sl, x, A10, c10⟩).toArray 45)))
     have HVAL : Hid ((∀ k, (Value.slice A10 1 c10).ownBlock = some k -> W0.heap.size <= k) /\ (d10.alloc (.cells (rowE ⟨v.row, pg, sl, x, A10, c10⟩).toArray 45)).ownsRow 0 50 4 (.slice A10 1 c10) 1 (intRow x)) :=
      ⟨fun k e => Nat.le_trans HW7.out.quiet.size (hfv.new k e), owns_kept hfv.own ((Only.refl (fun _ => False) d10).alloc _) (fun _ _ x => x)⟩
     have hml : M.length <= n := by
      have e1 : (M.map RowM.told).length <= (l.take k).length := by rw [HM.out]; exact List.length_filterMap_le _ _
      rw [List.length_map, List.length_take] at e1
      omega
     have x0 : d10.cell? ⟨pt, 0, none⟩ = some (.int .u64 v.row) := by rw [cell_of (hfv.quiet.get HBT.out (fun x => x))]; rfl
     have x1 : d10.cell? ⟨at_, 0, none⟩ = some (.int .i64 pg) := by rw [cell_of (hfv.quiet.get HAT7.out (fun x => x))]; rfl
     have x2 : d10.cell? ⟨at_, 1, none⟩ = some (.int .i64 sl) := by rw [cell_of (hfv.quiet.get HAT7.out (fun x => x))]; rfl
     obtain ⟨ml, hml2⟩ : ∃ ml, M.length = ml := ⟨_, rfl⟩
     have HML := Lib.hid hml2
     rw [hml2] at hml
     have hown := HW11.out.own
     rw [hml2] at hown
     have HOWN := Lib.hid hown
     clear hfv hc10 hm10 hml2 hown HDAT HKND HS7 HBT
     go_wp2_with (at_builtin; refine app elem_row rfl (.tmp 52) (.tmp 58) rfl rfl HOWN.out rfl HRD.out (rowE_one ⟨v.row, pg, sl, x, A10, c10⟩) (by unfold maxLen; omega) (by omega) ?_)
     intro v11 w11 hg11
     rw [<- HML.out] at hg11
     have HPU := Lib.hid (RowsW.push (m := ⟨v.row, pg, sl, x, A10, c10⟩) HW11.out HVAL.out hg11)
     have HTK2 : Hid ((M ++ [(⟨v.row, pg, sl, x, A10, c10⟩ : RowM)]).map RowM.told = seenR H s.L y (l.take (k + 1))) := by
      show _ = _
      rw [List.map_append, HM.out, seen_take HA.out, HTK.out]
      rfl
     clear hg11 HW11 HVAL HRD HOWN HW10 x0 x1 x2
     go_wp2
     go_roundw
     case rel => exact ⟨k + 1, _, _, by omega, by go_num, rfl, HPU.out, HTK2.out⟩
     case measure => simp [intOf]; omega
  ·obtain rfl : k = n := by omega
   have hml : M.length <= k := by
    have e1 : (M.map RowM.told).length <= (l.take k).length := by rw [HM.out]; exact List.length_filterMap_le _ _
    rw [List.length_map, List.length_take] at e1
    omega
   have HSO := Lib.hid (sort_rows u9 M wr HW.out.own (by omega))
   clear hml
   go_wp2_with fail
   refine HSO.out.mono ?_
   rintro e w9 ⟨rfl, M', hp, hsd, ho, hon⟩
   have HEND : Hid (POST (.returned u9) w9) := by
    rw [<- HPOST.out]
    refine ⟨u9, M', rfl, (HW.out.sorted hp hon ho).from HQ0.out, ?_, hsd⟩
    have := hp.map RowM.told
    rw [HM.out, List.take_of_length_le (by have := HN.out; omega)] at this
    exact this
   clear hp hsd ho hon HSO
   go_wp2
   exact HEND.out
def VersPost (w : World) (v : Tup) (code : Nat) (e : Ending) (w' : World) : Prop := ∃ A c, e = .returned (.tuple #[tupV v A c, .int .i64 (code : Int)]) /\ Quiet w w'
theorem four_new (w : World) (a b c d : Obj) : Quiet w ((((w.alloc a).alloc b).alloc c).alloc d) /\ ((((w.alloc a).alloc b).alloc c).alloc d).heap[w.heap.size]? = some a /\ ((((w.alloc a).alloc b).alloc c).alloc d).heap[w.heap.size + 1]? = some b /\ ((((w.alloc a).alloc b).alloc c).alloc d).heap[w.heap.size + 1 + 1]? = some c /\ ((((w.alloc a).alloc b).alloc c).alloc d).heap[w.heap.size + 1 + 1 + 1]? = some d := by
 refine ⟨((((Only.refl _ _).alloc _).alloc _).alloc _).alloc _, alloc_old (alloc_old (alloc_old (alloc_new w a) b) c) d, alloc_old (alloc_old (two_new w a b) c) d, ?_, ?_⟩
 ·have := alloc_new ((w.alloc a).alloc b) c
  simp only [World.size_alloc] at this
  exact alloc_old this d
 ·have := alloc_new (((w.alloc a).alloc b).alloc c) d
  simp only [World.size_alloc] at this
  exact this
set_option maxHeartbeats 4000000 in
theorem store_version {w : World} {sb cy c2 n3 c3 : Nat} {o : Nat -> Nat} {s : St} {y : Snap} {t : TE} {Sy : Nat -> Prop} {A A2 A3 : Option Addr} {H : List (List (Option Tup))} {pg sl : Int} {v : Tup} (h : StoreAt w sb o s) (hs : SnapV w Sy A cy y) (hid : U64 t.id)
  (hH : s.hs t.id = some H) (hg : hGet H pg sl = some v) (hx1 : U64 v.xmin) (hx2 : U64 v.xmax) :
  Calls Tryz.prog 35 #[ptrV sb, snapV y A cy, tabV t A2 c2, .agg #[.int .u64 v.row, .int .i64 pg, .int .i64 sl, .slice A3 n3 c3]] w (VersPost w v (freeS s.L y v.xmin v.xmax)) := by
 obtain ⟨lb, bb, pb, mh, mt, ms, fh, ft, fs, h⟩ := h
 obtain ⟨hb, hf, hp⟩ := h.heaps.2 t.id H hH
 have HH := Lib.hid h
 have HP := Lib.hid hp
 have HF := Lib.hid hf
 have HS := Lib.hid hs
 have HID := Lib.hid hid
 have HGV := Lib.hid hg
 have HV1 := Lib.hid (And.intro hx1 hx2)
 obtain ⟨q0, b5, b6, b7, b8⟩ := four_new w (.cells (snapCells y A cy) 73) (.cells #[.int .u64 (t.id : Int), .string t.name, .slice A2 t.cols.length c2, .int .u64 (t.xmin : Int), .int .u64 (t.xmax : Int)] 83) (.cells #[.int .u64 v.row, .int .i64 pg, .int .i64 sl, .slice A3 n3 c3] 45) (.cells #[.int .u64 0, .int .u64 0, .int .u64 0, .int .i64 0, .int .i64 0, .slice none 0 0] 95)
 have HQ0 := Lib.hid q0
 have HB5 := Lib.hid b5
 have HB6 := Lib.hid b6
 have HB7 := Lib.hid b7
 have HB8 := Lib.hid b8
 obtain ⟨r5, hr5⟩ : ∃ r5, w.heap.size = r5 := ⟨_, rfl⟩
 obtain ⟨r6, hr6⟩ : ∃ r6, r5 + 1 = r6 := ⟨_, rfl⟩
 obtain ⟨r7, hr7⟩ : ∃ r7, r6 + 1 = r7 := ⟨_, rfl⟩
 obtain ⟨r8, hr8⟩ : ∃ r8, r7 + 1 = r8 := ⟨_, rfl⟩
 rw [hr5] at HB5 HB6 HB7 HB8
 rw [hr6] at HB6 HB7 HB8
 rw [hr7] at HB7 HB8
 rw [hr8] at HB8
 obtain ⟨code, hcode⟩ : ∃ code, freeS s.L y v.xmin v.xmax = code := ⟨_, rfl⟩
 rw [hcode]
 have HCODE := Lib.hid hcode
 have HNE : Hid (r5 ≠ r8 /\ w.heap.size <= r8) := ⟨by omega, by omega⟩
 clear h hs hp hf hH hid hg hx1 hx2 q0 b5 b6 b7 b8 hcode
 unfold snapV tabV
 go_enter Tryz.func35, Tryz.ntmps35
 go_wp2_with fail
 (try simp only [World.size_alloc] at *)
 (try rw [hr5]); (try rw [hr6]); (try rw [hr7]); (try rw [hr8])
 generalize (((w.alloc (.cells #[.int .u64 (y.own : Int), .int .u64 (y.xmin : Int), .int .u64 (y.xmax : Int), .slice A y.run.length cy] 73)).alloc (.cells #[.int .u64 (t.id : Int), .string t.name, .slice A2 t.cols.length c2, .int .u64 (t.xmin : Int), .int .u64 (t.xmax : Int)] 83)).alloc (.cells #[.int .u64 v.row, .int .i64 pg, .int .i64 sl, .slice A3 n3 c3] 45)).alloc (.cells #[.int .u64 0, .int .u64 0, .int .u64 0, .int .i64 0, .int .i64 0, .slice none 0 0] 95) = wb at *
 have HS5 : Hid (∀ W, Quiet wb W -> (fun w' => w'.cell? ⟨sb, 3, none⟩ = some (.map (some mh)) /\ w'.cell? ⟨r6, 0, none⟩ = some (.int .u64 (t.id : Int)) /\ w'.cell? ⟨r7, 1, none⟩ = some (.int .i64 pg) /\ w'.cell? ⟨r7, 2, none⟩ = some (.int .i64 sl) /\ (Instr.lookup 63 (.map (some mh)) (.int .u64 (t.id : Int)) false).run Tryz.prog w' = .ok (ptrV hb) w') W) := fun W hq => by
  have h2 := HH.out.quietly (HQ0.out.trans hq)
  have b6 := hq.get HB6.out (fun x => x)
  have b7 := hq.get HB7.out (fun x => x)
  exact ⟨h2.cells.2.2.2.1, (tabBox_cells b6).1, by rw [cell_of b7]; rfl, by rw [cell_of b7]; rfl, look_heap h2.mH HF.out HID.out⟩
 have HGET : Hid (∀ W, Quiet wb W -> Calls Tryz.prog 44 #[ptrV hb, .agg #[.int .i64 pg, .int .i64 sl]] W (GetSome W v)) := fun W hq => heap_get_some pg sl v (HP.out.kept (HQ0.out.trans hq) (fun _ _ x => x)) HGV.out
 clear hr5 hr6 hr7 hr8
 apply got_key (wb := wb) (t := v)
 case main =>
   intro KEY
   refine zH HS5 (Only.refl _ _).drew (fun hHeld => ?_)
   simp only [List.size_toArray, List.length_cons, List.length_nil, Nat.reduceAdd]
   have q0 : Quiet wb wb.drew := (Only.refl _ _).drew
   generalize wb.drew = d0 at q0 hHeld ⊢
   refine zT 0 ?_
   refine zT 1 ?_
   refine zT 2 ?_
   refine zT 3 ?_
   refine zT 4 ?_
   refine zT 5 ?_
   refine zT 6 ?_
   refine zT 7 ?_
   refine zT 8 ?_
   refine wpAnyH_ready (rs := [9, 13]) (by kernel_rfl) (by simp) ?_
   refine zA ?_ ?_
   ·intro K hK
    go_simp
    go_at_call 44
    refine (HGET.out _ q0).mono ?_
    rintro e d2 ⟨A4, c4, rfl, hf4⟩
    have q2 := q0.trans hf4.quiet
    have hown := hf4.own
    have hfn : ∀ k, (Value.slice A4 v.data.length c4).ownBlock = some k -> wb.heap.size <= k := fun k e => Nat.le_trans (q0).size (hf4.new k e)
    clear hf4
    unfold tupV
    dsimp only
    refine hK.out _ _ ?_ (fun hHeld => ?_)
    ·exact HS5.out _ q2
    clear hK K
    (try simp only [Act.put, zPA, zPZ, zPS])
    refine zT 10 ?_
    refine zT 11 ?_
    refine zT 12 ?_
    refine zR 13 ?_
    intro K hK
    go_simp
    refine hK.out _ _ ?_ (fun hHeld => ?_)
    ·exact HS5.out _ (q2.alloc _)
    clear hK K
    (try simp only [Act.put, zPA, zPZ, zPS])
    have qd3 : Quiet wb (d2.alloc (.cells #[.int .u64 0, .int .u64 0, .int .u64 0, .int .i64 0, .int .i64 0, .slice none 0 0] 95)) := q2.alloc _
    have hb1 := alloc_new d2 (.cells #[.int .u64 0, .int .u64 0, .int .u64 0, .int .i64 0, .int .i64 0, .slice none 0 0] 95)
    have hnp : wb.heap.size <= d2.heap.size := q2.size
    have hown := owns_kept hown ((Only.refl (fun _ => False) d2).alloc (.cells #[.int .u64 0, .int .u64 0, .int .u64 0, .int .i64 0, .int .i64 0, .slice none 0 0] 95)) (fun _ _ x => x)
    obtain ⟨pt, hpt⟩ : ∃ pt, d2.heap.size = pt := ⟨_, rfl⟩
    rw [hpt] at hb1 hnp ⊢
    generalize d2.alloc (.cells #[.int .u64 0, .int .u64 0, .int .u64 0, .int .i64 0, .int .i64 0, .slice none 0 0] 95) = d3 at *
    clear hpt
    have z0 := cell_of hb1 0
    have z1 := cell_of hb1 1
    have z2 := cell_of hb1 2
    have z3 := cell_of hb1 3
    have z4 := cell_of hb1 4
    have z5 := cell_of hb1 5
    have zf := fun o => frozen_of hb1 o
    simp only [zGA, zGS, zGZ] at z0 z1 z2 z3 z4 z5
    refine zR 14 ?_
    intro K hK
    go_simp
    refine hK.out _ _ ?_ (fun hHeld => ?_)
    ·exact HS5.out _ (got_leaf qd3 hb1 hnp hown hfn).quiet
    clear hK K
    (try simp only [Act.put, zPA, zPZ, zPS])
    have HG := got_leaf qd3 hb1 hnp hown hfn
    unfold sixSet at HG
    refine zT 15 ?_
    refine wpAnyH_done (by kernel_rfl) ?_ _
    generalize ((((((d3.setCell ⟨pt, 0, none⟩ (.int .u64 v.row)).setCell ⟨pt, 1, none⟩ (.int .u64 v.xmin)).setCell ⟨pt, 2, none⟩ (.int .u64 v.xmax)).setCell ⟨pt, 3, none⟩ (.int .i64 v.pg)).setCell ⟨pt, 4, none⟩ (.int .i64 v.sl)).setCell ⟨pt, 5, none⟩ (.slice A4 v.data.length c4)) = WF at HG ⊢
    exact KEY _ _ _ _ HG
   refine zA ?_ AllReadyH.nil
   intro K hK
   go_simp
   refine hK.out _ _ ?_ (fun hHeld => ?_)
   ·exact HS5.out _ (q0.alloc _)
   clear hK K
   (try simp only [Act.put, zPA, zPZ, zPS])
   have qd1 : Quiet wb (d0.alloc (.cells #[.int .u64 0, .int .u64 0, .int .u64 0, .int .i64 0, .int .i64 0, .slice none 0 0] 95)) := q0.alloc _
   have hb1 := alloc_new d0 (.cells #[.int .u64 0, .int .u64 0, .int .u64 0, .int .i64 0, .int .i64 0, .slice none 0 0] 95)
   have hnp : wb.heap.size <= d0.heap.size := q0.size
   obtain ⟨pt, hpt⟩ : ∃ pt, d0.heap.size = pt := ⟨_, rfl⟩
   rw [hpt] at hb1 hnp ⊢
   generalize d0.alloc (.cells #[.int .u64 0, .int .u64 0, .int .u64 0, .int .i64 0, .int .i64 0, .slice none 0 0] 95) = d1 at *
   clear hpt
   refine zR 9 ?_
   intro K hK
   go_simp
   go_at_call 44
   refine (HGET.out _ qd1).mono ?_
   rintro e d2 ⟨A4, c4, rfl, hf4⟩
   have q2 := qd1.trans hf4.quiet
   have hb2 := hf4.quiet.get hb1 (fun x => x)
   have hown := hf4.own
   have hfn : ∀ k, (Value.slice A4 v.data.length c4).ownBlock = some k -> wb.heap.size <= k := fun k e => Nat.le_trans (qd1).size (hf4.new k e)
   clear hf4
   unfold tupV
   dsimp only
   refine hK.out _ _ ?_ (fun hHeld => ?_)
   ·exact HS5.out _ q2
   clear hK K
   (try simp only [Act.put, zPA, zPZ, zPS])
   have z0 := cell_of hb2 0
   have z1 := cell_of hb2 1
   have z2 := cell_of hb2 2
   have z3 := cell_of hb2 3
   have z4 := cell_of hb2 4
   have z5 := cell_of hb2 5
   have zf := fun o => frozen_of hb2 o
   simp only [zGA, zGS, zGZ] at z0 z1 z2 z3 z4 z5
   refine zT 10 ?_
   refine zT 11 ?_
   refine zT 12 ?_
   refine zR 14 ?_
   intro K hK
   go_simp
   refine hK.out _ _ ?_ (fun hHeld => ?_)
   ·exact HS5.out _ (got_leaf q2 hb2 hnp hown hfn).quiet
   clear hK K
   (try simp only [Act.put, zPA, zPZ, zPS])
   have HG := got_leaf q2 hb2 hnp hown hfn
   unfold sixSet at HG
   refine zT 15 ?_
   refine wpAnyH_done (by kernel_rfl) ?_ _
   generalize ((((((d2.setCell ⟨pt, 0, none⟩ (.int .u64 v.row)).setCell ⟨pt, 1, none⟩ (.int .u64 v.xmin)).setCell ⟨pt, 2, none⟩ (.int .u64 v.xmax)).setCell ⟨pt, 3, none⟩ (.int .i64 v.pg)).setCell ⟨pt, 4, none⟩ (.int .i64 v.sl)).setCell ⟨pt, 5, none⟩ (.slice A4 v.data.length c4)) = WF at HG ⊢
   exact KEY _ _ _ _ HG
 case key =>
  intro A4 c4 pt W HL0
  have HL := Lib.hid HL0
  clear HL0 HS5 HGET
  have HQW : Hid (Quiet w W) := HQ0.out.trans HL.out.quiet
  have HNP : Hid (pt ≠ r8) := fun e => by have := HL.out.new; have := lt_of_get HB8.out; omega
  have HS4 : Hid (∀ W', Only (fun k => k = r8) W W' -> (fun w' => w'.cell? ⟨sb, 0, none⟩ = some (ptrV lb) /\ w'.cell? ⟨r5, 0, none⟩ = some (.int .u64 (y.own : Int)) /\ w'.cell? ⟨r5, 1, none⟩ = some (.int .u64 (y.xmin : Int)) /\ w'.cell? ⟨r5, 2, none⟩ = some (.int .u64 (y.xmax : Int)) /\ w'.cell? ⟨r5, 3, none⟩ = some (.slice A y.run.length cy) /\ w'.cell? ⟨pt, 0, none⟩ = some (.int .u64 v.row) /\ w'.cell? ⟨pt, 1, none⟩ = some (.int .u64 v.xmin) /\ w'.cell? ⟨pt, 2, none⟩ = some (.int .u64 v.xmax) /\ w'.cell? ⟨pt, 3, none⟩ = some (.int .i64 v.pg) /\ w'.cell? ⟨pt, 4, none⟩ = some (.int .i64 v.sl) /\ w'.cell? ⟨pt, 5, none⟩ = some (.slice A4 v.data.length c4)) W') := fun W' hq => by
   have b5 := hq.get (HL.out.quiet.get HB5.out (fun x => x)) (fun x => HNE.out.1 x)
   have bt := hq.get HL.out.box (fun x => HNP.out x)
   have hsn := snapBox_cells b5
   have c0 := hq.cell ((HH.out.quietly HQW.out).cells.1) (fun x => by have := lt_of_get HH.out.box; have := HNE.out.2; simp only at x; omega)
   refine ⟨c0, hsn.1, hsn.2.1, hsn.2.2.1, hsn.2.2.2, ?_, ?_, ?_, ?_, ?_, ?_⟩ <;> (rw [cell_of bt]; rfl)
  have HFREE : Hid (∀ W', Quiet W W' -> Calls Tryz.prog 70 #[ptrV lb, snapV y A cy, tupV v A4 c4] W' (fun e w' => e = .returned (.int .i64 (code : Int)) /\ Quiet W' w')) := fun W' hq => by
   rw [<- HCODE.out]
   have hq2 := HQW.out.trans hq
   exact snap_free v A4 c4 (HH.out.quietly hq2).log (HS.out.kept hq2 (fun _ _ x => x)) HV1.out.1 HV1.out.2
  unfold snapV tupV at HFREE
  have HB8' := Lib.hid (HL.out.quiet.get HB8.out (fun x => x))
  have t0 := HL.out.cells.1
  have r0 : W.cell? ⟨r7, 0, none⟩ = some (.int .u64 v.row) := by rw [cell_of (HL.out.quiet.get HB7.out (fun x => x))]; rfl
  clear HB8
  have HB8 := HB8'
  clear HB8'
  go_wp2_with fail
  clear t0 r0
  refine zH HS4 (Only.refl _ _).drew (fun hHeld => ?_)
  simp only [List.size_toArray, List.length_cons, List.length_nil, Nat.reduceAdd]
  have q6 : Quiet W W.drew := (Only.refl _ _).drew
  generalize W.drew = d6 at q6 hHeld ⊢
  refine zT 0 ?_
  refine zT 1 ?_
  refine zT 2 ?_
  refine zT 3 ?_
  refine zT 4 ?_
  refine zT 5 ?_
  refine zT 6 ?_
  refine zR 7 ?_
  intro K hK
  go_simp
  go_at_call 70
  refine (HFREE.out _ q6).mono ?_
  rintro e d7 ⟨rfl, hq7⟩
  have q7 := q6.trans hq7
  clear hq7
  have h8 := q7.get HB8.out (fun x => x)
  have e0 := cell_of h8 0
  have e1 := cell_of h8 1
  have e2 := cell_of h8 2
  have e3 := cell_of h8 3
  have e4 := cell_of h8 4
  have e5 := cell_of h8 5
  have ef := fun o => frozen_of h8 o
  simp only [zGA, zGS, zGZ] at e0 e1 e2 e3 e4 e5
  dsimp only
  refine hK.out _ _ ?_ (fun hHeld => ?_)
  ·exact HS4.out _ (q7.mono (fun _ _ x => x.elim))
  clear hK K
  (try simp only [Act.put, zPA, zPZ, zPS])
  refine zR 8 ?_
  intro K hK
  go_simp
  refine hK.out _ _ ?_ (fun hHeld => ?_)
  ·exact HS4.out _ ((q7.mono (T := fun k => k = r8) (fun _ _ x => x.elim)).trans' (sixSet_only d7 r8 (.int .u64 v.row) (.int .u64 v.xmin) (.int .u64 v.xmax) (.int .i64 v.pg) (.int .i64 v.sl) (.slice A4 v.data.length c4)) (fun k _ e => e))
  clear hK K
  (try simp only [Act.put, zPA, zPZ, zPS])
  refine zT 9 ?_
  refine wpAnyH_done (by kernel_rfl) ?_ _
  have HX : Hid ((sixSet d7 r8 (.int .u64 v.row) (.int .u64 v.xmin) (.int .u64 v.xmax) (.int .i64 v.pg) (.int .i64 v.sl) (.slice A4 v.data.length c4)).heap[r8]? = some (.cells #[.int .u64 v.row, .int .u64 v.xmin, .int .u64 v.xmax, .int .i64 v.pg, .int .i64 v.sl, .slice A4 v.data.length c4] 95 (0, 0))) := sixSet_same h8 _ _ _ _ _ _
  have HP : Hid (VersPost w v code (.returned (.tuple #[tupV v A4 c4, .int .i64 (code : Int)])) (sixSet d7 r8 (.int .u64 v.row) (.int .u64 v.xmin) (.int .u64 v.xmax) (.int .i64 v.pg) (.int .i64 v.sl) (.slice A4 v.data.length c4))) := ⟨A4, c4, rfl, (HQW.out.trans q7).trans' (sixSet_only d7 r8 (.int .u64 v.row) (.int .u64 v.xmin) (.int .u64 v.xmax) (.int .i64 v.pg) (.int .i64 v.sl) (.slice A4 v.data.length c4)) (fun k hk e => by have := HNE.out.2; omega)⟩
  unfold sixSet at HX HP
  clear hHeld q6 q7 h8 e0 e1 e2 e3 e4 e5 ef
  unfold tupV at HP
  go_wp2
  exact bodyPost_ret (results_cell_tmp Tryz.results35 _ _ r8 _ _ (0, 0) _ (by rfl) HX.out Tryz.underlying95 rfl info_tup) (by rfl) HP.out
def putSt (s : St) (id : Nat) (H' : List (List (Option Tup))) (left' : Nat) : St := { s with left := left', hs := upd s.hs id (some H') }
def PutPost (w : World) (sb : Nat) (o : Nat -> Nat) (s' : St) (p q : Int) (e : Ending) (w' : World) : Prop := e = .returned (.tuple #[.agg #[.int .i64 p, .int .i64 q], .int .i64 0]) /\ StepTo w sb o s' w'
structure PutLeaf (wb W : World) (pt hb pb left' : Nat) (p q : Int) (G : Nat -> Prop) (H' : List (List (Option Tup))) : Prop where
 only : Only (fun k => G k ∨ k = pb) wb W
 box : W.heap[pt]? = some (.cells #[.int .i64 p, .int .i64 q] 43 (0, 0))
 new : wb.heap.size <= pt
 pool : PoolAt W pb left'
 heap : HeapIs W hb pb (fun k => G k ∨ (wb.heap.size <= k /\ k ≠ pt)) H'
theorem put_leaf {wb w1 : World} {pt hb pb left' : Nat} {p q : Int} {G : Nat -> Prop} {H' : List (List (Option Tup))} {c0 c1 : Value} (hq : Only (fun k => G k ∨ k = pb) wb w1) (h1 : w1.heap[pt]? = some (.cells #[c0, c1] 43 (0, 0))) (hn : wb.heap.size <= pt)
  (hp : PoolAt w1 pb left') (hh : HeapIs w1 hb pb (fun k => G k ∨ (wb.heap.size <= k /\ k ≠ pt)) H') (hG : ∀ k, wb.heap.size <= k -> ¬ (G k ∨ k = pb)) :
  PutLeaf wb ((w1.setCell ⟨pt, 0, none⟩ (.int .i64 p)).setCell ⟨pt, 1, none⟩ (.int .i64 q)) pt hb pb left' p q G H' := by
 have ho := two_only w1 pt (.int .i64 p) (.int .i64 q)
 refine ⟨hq.trans' ho (fun k hk e => by omega), two_set h1 _ _, hn, hp.kept ho (fun e => hG _ hn (Or.inr e.symm)), hh.kept ho (fun k x e => ?_)⟩
 rcases x with x | x
 ·exact hG k (by omega) (Or.inl x)
 ·exact x.2 e
theorem put_key {goal : Prop} {wb : World} {hb pb left' : Nat} {p q : Int} {Gw : Nat -> Prop} {H' : List (List (Option Tup))} {G : Nat -> World -> Prop} (main : (∀ pt W, PutLeaf wb W pt hb pb left' p q Gw H' -> G pt W) -> goal) (key : ∀ pt W, PutLeaf wb W pt hb pb left' p q Gw H' -> G pt W) : goal := main key
theorem put_new3 (w : World) (a b c : Obj) : Quiet w (((w.alloc a).alloc b).alloc c) /\ (((w.alloc a).alloc b).alloc c).heap[w.heap.size]? = some a /\ (((w.alloc a).alloc b).alloc c).heap[w.heap.size + 1]? = some b /\ (((w.alloc a).alloc b).alloc c).heap[w.heap.size + 1 + 1]? = some c := by
 refine ⟨(((Only.refl _ _).alloc _).alloc _).alloc _, alloc_old (alloc_old (alloc_new w a) b) c, alloc_old (two_new w a b) c, ?_⟩
 have := alloc_new ((w.alloc a).alloc b) c
 simp only [World.size_alloc] at this
 exact this
set_option maxHeartbeats 4000000 in
theorem store_put0 {w : World} {sb c2 cd left' : Nat} {o : Nat -> Nat} {s : St} {t : TE} {Sd : Nat -> Prop} {A A2 : Option Addr} {H H' : List (List (Option Tup))} {p q : Int} {v : Tup} (h : StoreAt w sb o s) (hI : s.I = []) (hid : U64 t.id) (hH : s.hs t.id = some H) (hle : H.length + s.left <= 256)
  (hby : ∀ x ∈ v.data, x < 256) (hd : Rd w Sd 1 A v.data.length (bytesV v.data)) (hS : ∀ k, Sd k -> o k = 0) (hins : hIns H s.left v = ((p, q, 0), H', left')) :
  Calls Tryz.prog 30 #[ptrV sb, tabV t A2 c2, tupV v A cd] w (PutPost w sb o (putSt s t.id H' left') p q) := by
 obtain ⟨lb, bb, pb, mh, mt, ms, fh, ft, fs, h⟩ := h
 obtain ⟨hb, hf, hp⟩ := h.heaps.2 t.id H hH
 have HH := Lib.hid h
 have HP := Lib.hid hp
 have HF := Lib.hid hf
 have HID := Lib.hid hid
 have HD := Lib.hid hd
 have HI := Lib.hid hI
 have HIN := Lib.hid hins
 have HBY := Lib.hid hby
 have HSD := Lib.hid hS
 have HLE := Lib.hid hle
 obtain ⟨q0, b4, b5, b6⟩ := put_new3 w (.cells #[.int .u64 (t.id : Int), .string t.name, .slice A2 t.cols.length c2, .int .u64 (t.xmin : Int), .int .u64 (t.xmax : Int)] 83) (.cells #[.int .u64 v.row, .int .u64 v.xmin, .int .u64 v.xmax, .int .i64 v.pg, .int .i64 v.sl, .slice A v.data.length cd] 95) (.cells #[.int .i64 0, .int .i64 0] 43)
 have HQ0 := Lib.hid q0
 have HB4 := Lib.hid b4
 have HB5 := Lib.hid b5
 have HB6 := Lib.hid b6
 obtain ⟨r4, hr4⟩ : ∃ r4, w.heap.size = r4 := ⟨_, rfl⟩
 obtain ⟨r5, hr5⟩ : ∃ r5, r4 + 1 = r5 := ⟨_, rfl⟩
 obtain ⟨r6, hr6⟩ : ∃ r6, r5 + 1 = r6 := ⟨_, rfl⟩
 rw [hr4] at HB4 HB5 HB6
 rw [hr5] at HB5 HB6
 rw [hr6] at HB6
 have HR6 : Hid (w.heap.size <= r6 /\ w.heap.size <= r4 /\ w.heap.size <= r5) := ⟨by omega, by omega, by omega⟩
 clear h hp hf hid hd hI hins hby hS hH q0 b4 b5 b6 hle
 unfold tabV tupV
 go_enter Tryz.func30, Tryz.ntmps30
 go_wp2_with fail
 (try simp only [World.size_alloc] at *)
 (try rw [hr4]); (try rw [hr5]); (try rw [hr6])
 generalize ((w.alloc (.cells #[.int .u64 (t.id : Int), .string t.name, .slice A2 t.cols.length c2, .int .u64 (t.xmin : Int), .int .u64 (t.xmax : Int)] 83)).alloc (.cells #[.int .u64 v.row, .int .u64 v.xmin, .int .u64 v.xmax, .int .i64 v.pg, .int .i64 v.sl, .slice A v.data.length cd] 95)).alloc (.cells #[.int .i64 0, .int .i64 0] 43) = wb at *
 have HBIG : Hid (∀ k, w.heap.size <= k -> o k = 0) := HH.out.big
 have HPB : Hid (pb < w.heap.size) := HH.out.pool.lt
 have HGN : Hid (∀ k, wb.heap.size <= k -> ¬ (o k = 10 + 2 * t.id ∨ k = pb)) := fun k hk x => by
  have := HBIG.out k (by have := HQ0.out.size; omega)
  have := HPB.out
  have := HQ0.out.size
  rcases x with x | x <;> omega
 have HS5 : Hid (∀ W, Only (fun k => o k = 10 + 2 * t.id ∨ k = pb) wb W -> (fun w' => w'.cell? ⟨sb, 3, none⟩ = some (.map (some mh)) /\ w'.cell? ⟨r4, 0, none⟩ = some (.int .u64 (t.id : Int)) /\ w'.cell? ⟨r5, 0, none⟩ = some (.int .u64 v.row) /\ w'.cell? ⟨r5, 1, none⟩ = some (.int .u64 v.xmin) /\ w'.cell? ⟨r5, 2, none⟩ = some (.int .u64 v.xmax) /\ w'.cell? ⟨r5, 3, none⟩ = some (.int .i64 v.pg) /\ w'.cell? ⟨r5, 4, none⟩ = some (.int .i64 v.sl) /\ w'.cell? ⟨r5, 5, none⟩ = some (.slice A v.data.length cd) /\ (Instr.lookup 63 (.map (some mh)) (.int .u64 (t.id : Int)) false).run Tryz.prog w' = .ok (ptrV hb) w') W) := fun W hq => by
  have h2 := HH.out.quietly HQ0.out
  obtain ⟨t1, t2, t3, t4, t5⟩ := h2.tags
  have b4 := hq.get HB4.out (fun x => by have := HBIG.out r4 HR6.out.2.1; have := HPB.out; have := HR6.out; rcases x with x | x <;> omega)
  have b5 := hq.get HB5.out (fun x => by have := HBIG.out r5 HR6.out.2.2; have := HPB.out; have := HR6.out; rcases x with x | x <;> omega)
  have c3 := hq.cell h2.cells.2.2.2.1 (fun x => by dsimp only at x; rcases x with x | x; omega; rw [x] at t1; omega)
  have hm := h2.mH.kept hq (fun x => by rcases x with x | x; omega; rw [x] at t3; omega)
  refine ⟨c3, (tabBox_cells b4).1, ?_, ?_, ?_, ?_, ?_, ?_, look_heap hm HF.out HID.out⟩ <;> (rw [cell_of b5]; rfl)
 have HINS : Hid (∀ W, Quiet wb W -> Calls Tryz.prog 60 #[ptrV hb, .agg #[.int .u64 v.row, .int .u64 v.xmin, .int .u64 v.xmax, .int .i64 v.pg, .int .i64 v.sl, .slice A v.data.length cd]] W (fun e w' => e = .returned (.tuple #[.agg #[.int .i64 p, .int .i64 q], .int .i64 0]) /\ Only (fun k => o k = 10 + 2 * t.id ∨ k = pb) W w' /\ PoolAt w' pb left' /\ HeapIs w' hb pb (fun k => o k = 10 + 2 * t.id ∨ W.heap.size <= k) H')) := fun W hq => by
  have hq2 := HQ0.out.trans hq
  have := heap_insert s.left v A cd Sd (HP.out.kept hq2 (fun _ _ x => x)) (HH.out.pool.kept hq2 (fun x => x)) HLE.out HBY.out (HD.out.kept hq2 (fun _ _ x => x)) (fun k hk => ⟨fun x => by have := HSD.out k hk; omega, fun x => by have := HSD.out k hk; have := HH.out.tags.2.1; rw [x] at *; omega⟩)
  rw [HIN.out] at this
  exact this
 clear hr4 hr5 hr6
 apply put_key (wb := wb) (hb := hb) (pb := pb) (left' := left') (p := p) (q := q) (Gw := fun k => o k = 10 + 2 * t.id) (H' := H')
 case main =>
   intro KEY
   refine zH HS5 ((Only.refl _ _).drew) (fun hHeld => ?_)
   simp only [List.size_toArray, List.length_cons, List.length_nil, Nat.reduceAdd]
   have q0 : Quiet wb wb.drew := (Only.refl _ _).drew
   generalize wb.drew = d0 at q0 hHeld ⊢
   refine zT 0 ?_
   refine zT 1 ?_
   refine zT 2 ?_
   refine zT 3 ?_
   refine zT 4 ?_
   refine zT 5 ?_
   refine zT 6 ?_
   refine zT 7 ?_
   refine wpAnyH_ready (rs := [8, 12]) (by kernel_rfl) (by simp) ?_
   refine zA ?_ ?_
   ·intro K hK
    go_simp
    go_at_call 60
    refine (HINS.out _ q0).mono ?_
    rintro e d2 ⟨rfl, hi1, hi2, hi3⟩
    have q2 := (q0.mono (T := (fun k => o k = 10 + 2 * t.id ∨ k = pb)) (fun _ _ x => x.elim)).trans hi1
    have hheap := hi3.lim
    have hpool := hi2
    clear hi1 hi2 hi3
    dsimp only
    refine hK.out _ _ ?_ (fun hHeld => ?_)
    ·exact HS5.out _ q2
    clear hK K
    (try simp only [Act.put, zPA, zPZ, zPS])
    refine zT 9 ?_
    refine zT 10 ?_
    refine zT 11 ?_
    refine zR 12 ?_
    intro K hK
    go_simp
    refine hK.out _ _ ?_ (fun hHeld => ?_)
    ·exact HS5.out _ (q2.alloc _)
    clear hK K
    (try simp only [Act.put, zPA, zPZ, zPS])
    have qd3 := q2.alloc (.cells #[.int .i64 0, .int .i64 0] 43)
    have hb1 := alloc_new d2 (.cells #[.int .i64 0, .int .i64 0] 43)
    have hnp : wb.heap.size <= d2.heap.size := q2.size
    have hpool := hpool.kept ((Only.refl (fun _ => False) d2).alloc (.cells #[.int .i64 0, .int .i64 0] 43)) (fun x => x)
    have hheap := hheap.kept ((Only.refl (fun _ => False) d2).alloc (.cells #[.int .i64 0, .int .i64 0] 43)) (fun _ _ x => x)
    obtain ⟨pt, hpt⟩ : ∃ pt, d2.heap.size = pt := ⟨_, rfl⟩
    (try rw [hpt] at hb1)
    (try rw [hpt] at hnp)
    (try rw [hpt])
    (try rw [hpt] at hheap)
    have hheap : HeapIs (d2.alloc (.cells #[.int .i64 0, .int .i64 0] 43)) hb pb (fun k => o k = 10 + 2 * t.id ∨ (wb.heap.size <= k /\ k ≠ pt)) H' := hheap.mono (fun k x => by rcases x.1 with y | y; exact Or.inl y; exact Or.inr ⟨by have := q0.size; omega, by omega⟩)
    generalize d2.alloc (.cells #[.int .i64 0, .int .i64 0] 43) = d3 at *
    clear hpt
    have z0 := cell_of hb1 0
    have z1 := cell_of hb1 1
    have zf := fun o => frozen_of hb1 o
    simp only [zGA, zGS, zGZ] at z0 z1
    refine zR 13 ?_
    intro K hK
    go_simp
    refine hK.out _ _ ?_ (fun hHeld => ?_)
    ·exact HS5.out _ (put_leaf qd3 hb1 hnp hpool hheap HGN.out (p := p) (q := q)).only
    clear hK K
    (try simp only [Act.put, zPA, zPZ, zPS])
    have HG := (put_leaf qd3 hb1 hnp hpool hheap HGN.out (p := p) (q := q))
    refine zT 14 ?_
    refine wpAnyH_done (by kernel_rfl) ?_ _
    generalize (d3.setCell ⟨pt, 0, none⟩ (.int .i64 p)).setCell ⟨pt, 1, none⟩ (.int .i64 q) = WF at HG ⊢
    exact KEY _ _ HG
   refine zA ?_ AllReadyH.nil
   intro K hK
   go_simp
   refine hK.out _ _ ?_ (fun hHeld => ?_)
   ·exact HS5.out _ ((q0.alloc _).mono (fun _ _ x => x.elim))
   clear hK K
   (try simp only [Act.put, zPA, zPZ, zPS])
   have qd1 := q0.alloc (.cells #[.int .i64 0, .int .i64 0] 43)
   have hb1 := alloc_new d0 (.cells #[.int .i64 0, .int .i64 0] 43)
   have hnp : wb.heap.size <= d0.heap.size := q0.size
   have hnz : (d0.alloc (.cells #[.int .i64 0, .int .i64 0] 43)).heap.size = d0.heap.size + 1 := by simp
   obtain ⟨pt, hpt⟩ : ∃ pt, d0.heap.size = pt := ⟨_, rfl⟩
   (try rw [hpt] at hb1)
   (try rw [hpt] at hnp)
   (try rw [hpt])
   (try rw [hpt] at hnz)
   generalize d0.alloc (.cells #[.int .i64 0, .int .i64 0] 43) = d1 at *
   clear hpt
   refine zR 8 ?_
   intro K hK
   go_simp
   go_at_call 60
   refine (HINS.out _ qd1).mono ?_
   rintro e d2 ⟨rfl, hi1, hi2, hi3⟩
   have q2 := (qd1.mono (T := (fun k => o k = 10 + 2 * t.id ∨ k = pb)) (fun _ _ x => x.elim)).trans hi1
   have hb2 := hi1.get hb1 (fun x => HGN.out _ hnp x)
   have hheap : HeapIs d2 hb pb (fun k => o k = 10 + 2 * t.id ∨ (wb.heap.size <= k /\ k ≠ pt)) H' := hi3.mono (fun k x => by rcases x with x | x; exact Or.inl x; exact Or.inr ⟨by omega, by omega⟩)
   have hpool := hi2
   clear hi1 hi2 hi3
   dsimp only
   refine hK.out _ _ ?_ (fun hHeld => ?_)
   ·exact HS5.out _ q2
   clear hK K
   (try simp only [Act.put, zPA, zPZ, zPS])
   have z0 := cell_of hb2 0
   have z1 := cell_of hb2 1
   have zf := fun o => frozen_of hb2 o
   simp only [zGA, zGS, zGZ] at z0 z1
   refine zT 9 ?_
   refine zT 10 ?_
   refine zT 11 ?_
   refine zR 13 ?_
   intro K hK
   go_simp
   refine hK.out _ _ ?_ (fun hHeld => ?_)
   ·exact HS5.out _ (put_leaf q2 hb2 hnp hpool hheap HGN.out (p := p) (q := q)).only
   clear hK K
   (try simp only [Act.put, zPA, zPZ, zPS])
   have HG := (put_leaf q2 hb2 hnp hpool hheap HGN.out (p := p) (q := q))
   refine zT 14 ?_
   refine wpAnyH_done (by kernel_rfl) ?_ _
   generalize (d2.setCell ⟨pt, 0, none⟩ (.int .i64 p)).setCell ⟨pt, 1, none⟩ (.int .i64 q) = WF at HG ⊢
   exact KEY _ _ HG
 case key =>
  intro pt W HL0
  have HL := Lib.hid HL0
  clear HL0 HS5 HINS
  have HOW : Hid (Only (fun k => o k = 10 + 2 * t.id ∨ k = pb) w W) := (HQ0.out.mono (fun _ _ x => x.elim)).trans' HL.out.only (fun k _ x => x)
  have HBW : Hid (∀ k, (o k = 10 + 2 * t.id ∨ k = pb) -> o k = 10 + 2 * t.id ∨ o k = 4) := fun k x => by rcases x with x | x; exact Or.inl x; rw [x]; exact Or.inr HH.out.tags.2.1
  have HS4 : Hid (∀ W', Quiet W W' -> (fun w' => w'.cell? ⟨sb, 1, none⟩ = some (ptrV bb) /\ w'.cell? ⟨sb, 0, none⟩ = some (ptrV lb) /\ w'.cell? ⟨r4, 0, none⟩ = some (.int .u64 (t.id : Int))) W') := fun W' hq => by
   have ho := HOW.out.trans' hq (fun k _ x => x.elim)
   have b4 := hq.get (HL.out.only.get HB4.out (fun x => by have := HBIG.out r4 HR6.out.2.1; have := HPB.out; have := HR6.out; rcases x with x | x <;> omega)) (fun x => x)
   have t1 := HH.out.tags.1
   have c := HH.out.cells
   exact ⟨ho.cell c.2.1 (fun x => by have := HBW.out _ x; dsimp only at this; omega), ho.cell c.1 (fun x => by have := HBW.out _ x; dsimp only at this; omega), (tabBox_cells b4).1⟩
  have HKEEP : Hid (∀ W', Quiet W W' -> Calls Tryz.prog 61 #[ptrV bb, ptrV lb, .int .u64 (t.id : Int)] W' (NilPost W')) := fun W' hq => by
   have ho := HOW.out.trans' hq (fun k _ x => x.elim)
   have hbk := bookK HH.out.book ho (OwnOn.refl) (by omega) (fun k x => by have := HBW.out _ x; omega)
   rw [HI.out] at hbk
   exact keep_none hbk
  have z0 := cell_of HL.out.box 0
  have z1 := cell_of HL.out.box 1
  have z6 := cell_of (HL.out.only.get HB6.out (fun x => by have := HBIG.out r6 HR6.out.1; have := HPB.out; have := HR6.out; rcases x with x | x <;> omega))
  have y0 := z6 0
  have y1 := z6 1
  have HB6W := Lib.hid (HL.out.only.get HB6.out (fun x => by have := HBIG.out r6 HR6.out.1; have := HPB.out; have := HR6.out; rcases x with x | x <;> omega))
  have yf := fun o => frozen_of HB6W.out o
  simp only [zGA, zGS, zGZ] at z0 z1 y0 y1
  have hlp := lt_of_get HL.out.box
  have hlr := lt_of_get HB6W.out
  have hnr : pt ≠ r6 := fun e => by have := HL.out.new; have := lt_of_get HB6.out; omega
  clear z6
  go_wp2_with fail
  refine zH HS4 ((Only.refl _ _).drew) (fun hHeld => ?_)
  simp only [List.size_toArray, List.length_cons, List.length_nil, Nat.reduceAdd]
  have q6 : Quiet W W.drew := (Only.refl _ _).drew
  generalize W.drew = d6 at q6 hHeld ⊢
  refine zT 0 ?_
  refine zT 1 ?_
  refine zT 2 ?_
  refine zT 3 ?_
  refine zT 4 ?_
  refine zT 5 ?_
  refine zT 6 ?_
  refine zT 7 ?_
  refine zT 8 ?_
  refine zT 9 ?_
  refine zT 12 ?_
  refine zR 10 ?_
  intro K hK
  go_simp
  go_at_call 61
  refine (HKEEP.out _ q6).mono ?_
  rintro e d7 ⟨rfl, rfl⟩
  dsimp only
  refine hK.out _ _ ?_ (fun hHeld => ?_)
  ·exact HS4.out _ q6
  clear hK K
  (try simp only [Act.put, zPA, zPZ, zPS])
  refine zT 11 ?_
  refine wpAnyH_done (by kernel_rfl) ?_ _
  have HD6 : Hid (Quiet W d6) := q6
  have y0' := q6.cell y0 (fun x => x)
  have y1' := q6.cell y1 (fun x => x)
  have z0' := q6.cell z0 (fun x => x)
  have z1' := q6.cell z1 (fun x => x)
  have yf' := fun o => frozen_of (q6.get HB6W.out (fun x => x)) o
  have HX : Hid (((d6.setCell ⟨r6, 0, none⟩ (.int .i64 p)).setCell ⟨r6, 1, none⟩ (.int .i64 q)).heap[r6]? = some (.cells #[.int .i64 p, .int .i64 q] 43 (0, 0))) := two_set (q6.get HB6W.out (fun x => x)) _ _
  have HPO : Hid (PutPost w sb o (putSt s t.id H' left') p q (.returned (.tuple #[.agg #[.int .i64 p, .int .i64 q], .int .i64 0])) ((d6.setCell ⟨r6, 0, none⟩ (.int .i64 p)).setCell ⟨r6, 1, none⟩ (.int .i64 q))) := by
   have h2 := two_only d6 r6 (.int .i64 p) (.int .i64 q)
   have ho := (HOW.out.trans' q6 (fun k _ x => x.elim)).trans' h2 (fun k hk x => by have := HR6.out.1; omega)
   have hpo := (HL.out.pool.kept q6 (fun x => x)).kept h2 (fun x => by have := HPB.out; have := HR6.out.1; omega)
   have hhe := (HL.out.heap.kept q6 (fun _ _ x => x)).kept h2 (fun k x e => by
     have := HBIG.out r6 HR6.out.1
     have := lt_of_get HB6.out
     rcases x with x | x
     · rw [e] at x; omega
     · have := x.1; omega)
   have h3 := HH.out.setHeap (id := t.id) HF.out ho hpo (hhe.mono (fun k x => by
     rcases x with x | x
     · exact Or.inl x
     · exact Or.inr (by have := HQ0.out.size; omega)))
   exact ⟨rfl, _, fun k hk => grow_old hk, ho.mono (fun k _ x => by have := HBW.out k x; omega), _, _, _, _, _, _, _, _, _, h3⟩
  clear hHeld q6 y0 y1 z0 z1 yf HKEEP HS4
  go_wp2_with fail
  refine wp_loop_rounds 1 ?_
  rw [rounds_succ]
  go_wp2
  exact bodyPost_ret (results_cell_tmp Tryz.results30 _ _ r6 _ _ (0, 0) _ (by rfl) HX.out Tryz.underlying43 rfl info_tid) (by rfl) HPO.out
theorem StoreAt.big {w : World} {sb : Nat} {o : Nat -> Nat} {s : St} (h : StoreAt w sb o s) : ∀ k, w.heap.size <= k -> o k = 0 := by
 obtain ⟨lb, bb, pb, mh, mt, ms, fh, ft, fs, h⟩ := h
 exact h.big
theorem StoreAt.cell6 {w : World} {sb : Nat} {o : Nat -> Nat} {s : St} (h : StoreAt w sb o s) : w.cell? ⟨sb, 6, none⟩ = some (.int .u64 (s.last : Int)) /\ o sb = 1 := by
 obtain ⟨lb, bb, pb, mh, mt, ms, fh, ft, fs, h⟩ := h
 exact ⟨h.cells.2.2.2.2.2.2, h.tags.1⟩
theorem store_nowhere (w : World) : Calls Tryz.prog 31 #[] w fun e w' => e = .returned (.agg #[.int .i64 (-1), .int .i64 (-1)]) /\ Quiet w w' := by
 go_enter Tryz.func31, Tryz.ntmps31
 go_wp2
 exact bodyPost_ret (v := .agg #[.int .i64 (-1), .int .i64 (-1)]) (by simp [results, Tryz.results31, go_sem]) rfl ⟨rfl, (Only.refl _ _).alloc _⟩
theorem wrapU_of (n : Nat) (h : n < 18446744073709551616) : IntKind.u64.wrap (n : Int) = (n : Int) := by
 simp [IntKind.wrap, IntKind.bits, IntKind.signed]
 omega
theorem rowI_bytes {n : Nat} (hn : n < 256) : ∀ x ∈ rowI n, x < 256 := by
 intro x hx
 unfold rowI smallN at hx
 rcases List.mem_cons.1 hx with e | e
 ·omega
 ·obtain ⟨i, _, e⟩ := List.mem_map.1 e
  split at e <;> omega
structure InsLeaf (wb W : World) (sb pt : Nat) (p q : Int) (o : Nat -> Nat) (s' : St) : Prop where
 only : Only (fun k => o k ≠ 0) wb W
 st : ∃ o', (∀ k, k < wb.heap.size -> o' k = o k) /\ StoreAt W sb o' s' /\ o' pt = 0
 new : wb.heap.size <= pt
 box : W.heap[pt]? = some (.cells #[.int .i64 p, .int .i64 q] 43 (0, 0))
theorem ins_leaf {wb w1 : World} {pt sb : Nat} {p q : Int} {c0 c1 : Value} {o o2 : Nat -> Nat} {s' : St} (hq : Only (fun k => o k ≠ 0) wb w1) (hn : wb.heap.size <= pt) (h1 : w1.heap[pt]? = some (.cells #[c0, c1] 43 (0, 0))) (hst : StoreAt w1 sb o2 s') (hop : o2 pt = 0) (ho : ∀ k, k < wb.heap.size -> o2 k = o k) :
  InsLeaf wb ((w1.setCell ⟨pt, 0, none⟩ (.int .i64 p)).setCell ⟨pt, 1, none⟩ (.int .i64 q)) sb pt p q o s' := by
 have h2 := two_only w1 pt (.int .i64 p) (.int .i64 q)
 exact ⟨hq.trans' h2 (fun k hk e => by omega), ⟨o2, ho, hst.kept h2 (fun k e => by rw [e]; exact hop), hop⟩, hn, two_set h1 _ _⟩
theorem last_cell {W : World} {sb a b : Nat} (h : a = b) (x : W.cell? ⟨sb, 6, none⟩ = some (.int .u64 (a : Int))) : W.cell? ⟨sb, 6, none⟩ = some (.int .u64 (b : Int)) := by rw [<- h]; exact x
theorem InsLeaf.cell6 {wb W : World} {sb pt : Nat} {p q : Int} {o : Nat -> Nat} {s' : St} (h : InsLeaf wb W sb pt p q o s') : W.cell? ⟨sb, 6, none⟩ = some (.int .u64 (s'.last : Int)) := by
 obtain ⟨o', _, h1, _⟩ := h.st
 exact h1.cell6.1
theorem ins_key {goal : Prop} {wb : World} {sb : Nat} {p q : Int} {o : Nat -> Nat} {s' : St} {G : Nat -> World -> Prop} (main : (∀ pt W, InsLeaf wb W sb pt p q o s' -> G pt W) -> goal) (key : ∀ pt W, InsLeaf wb W sb pt p q o s' -> G pt W) : goal := main key
def insSt (s : St) (id : Nat) (H' : List (List (Option Tup))) (left' : Nat) : St := { s with left := left', hs := upd s.hs id (some H'), last := s.last + 1 }
def StoreInsPost (w : World) (sb : Nat) (o : Nat -> Nat) (s' : St) (e : Ending) (w' : World) : Prop := e = .returned (.int .i64 0) /\ StepTo w sb o s' w'
set_option maxHeartbeats 4000000 in
theorem store_insert_of {w : World} {sb x i c3 n : Nat} {o : Nat -> Nat} {s s1 : St} {y : Snap} {t : TE} {name nm : ByteArray} {Sv : Nat -> Prop} {A3 : Option Addr} {p q : Int} (h : StoreAt w sb o s) (hx : U64 x) (hy : s.sn x = some y) (hf : findT s.L y name s.T = some i) (ht : s.T[i]? = some t) (hc : t.cols = [(nm, 1)])
  (hn : n < 256) (hv : Rd w Sv 4 A3 1 (intRow n)) (hc3 : 1 <= c3) (hm3 : c3 <= maxLen) (hlast : s.last + 1 < 18446744073709551616) (hl1 : s1.last = s.last)
  (hput : ∀ (W : World) (A2 : Option Addr) (c2 : Nat) (A5 : Option Addr) (c5 : Nat), Quiet w W -> Rd W (fun k => w.heap.size <= k) 2 A2 t.cols.length (colsV t.cols) -> t.cols.length <= c2 -> c2 <= maxLen -> Rd W (fun k => w.heap.size <= k) 1 A5 9 (bytesV (rowI n)) -> 9 <= c5 -> c5 <= maxLen →
    Calls Tryz.prog 30 #[ptrV sb, tabV t A2 c2, tupV ⟨s.last + 1, x, 0, -1, -1, rowI n⟩ A5 c5] W (PutPost W sb o s1 p q)) :
  Calls Tryz.prog 10 #[ptrV sb, .int .u64 (x : Int), .string name, .slice A3 1 c3] w (StoreInsPost w sb o { s1 with last := s.last + 1 }) := by
 have HO := Lib.hid (store_open h hx hy hf ht)
 have HH := Lib.hid h
 have HC := Lib.hid hc
 have HL1 := Lib.hid hl1
 have HPU := Lib.hid hput
 have HN := Lib.hid hn
 have HV := Lib.hid hv
 have HC3 := Lib.hid (And.intro hc3 hm3)
 obtain ⟨ln, hln⟩ : ∃ ln, s.last + 1 = ln := ⟨_, rfl⟩
 rw [hln] at hlast
 have HLN := Lib.hid hln
 have HLA := Lib.hid hlast
 have en : ((s.last : Int) + 1) = (ln : Int) := by rw [<- hln]; omega
 have hw : IntKind.u64.wrap (ln : Int) = (ln : Int) := wrapU_of ln hlast
 have HW := Lib.hid hw
 have HEN := Lib.hid en
 clear h hx hy hf ht hc hn hv hc3 hm3 hlast hln hw en hl1 hput
 go_enter Tryz.func10, Tryz.ntmps10
 go_wp2_with fail
 refine HO.out.mono ?_
 rintro e w1 ⟨A, c, A2, c2, rfl, hq1, hs1, hf1, hc2, hm2⟩
 clear HO
 have HQ1 := Lib.hid hq1
 have HF1 := Lib.hid hf1
 have HC2 := Lib.hid (And.intro hc2 hm2)
 have q2 : Quiet w1 ((w1.alloc (.cells (snapCells y A c) 73)).alloc (.cells #[.int .u64 (t.id : Int), .string t.name, .slice A2 t.cols.length c2, .int .u64 (t.xmin : Int), .int .u64 (t.xmax : Int)] 83)) := ((Only.refl _ _).alloc _).alloc _
 have b10 := two_new w1 (.cells (snapCells y A c) 73) (.cells #[.int .u64 (t.id : Int), .string t.name, .slice A2 t.cols.length c2, .int .u64 (t.xmin : Int), .int .u64 (t.xmax : Int)] 83)
 have HQ2 := Lib.hid q2
 have HB10 := Lib.hid b10
 obtain ⟨r9, hr9⟩ : ∃ r9, w1.heap.size = r9 := ⟨_, rfl⟩
 obtain ⟨r10, hr10⟩ : ∃ r10, r9 + 1 = r10 := ⟨_, rfl⟩
 rw [hr9] at HB10
 rw [hr10] at HB10
 have HR10 : Hid (w1.heap.size <= r10) := by show _ <= _; omega
 have HE9 := Lib.hid hr9
 have HE10 := Lib.hid hr10
 clear hq1 hs1 hf1 hc2 hm2 q2 b10 hr9 hr10
 unfold snapV tabV
 go_wp2_with fail
 (try simp only [World.size_alloc])
 rw [HE9.out, HE10.out]
 generalize (w1.alloc (.cells #[.int .u64 (y.own : Int), .int .u64 (y.xmin : Int), .int .u64 (y.xmax : Int), .slice A y.run.length c] 73)).alloc (.cells #[.int .u64 (t.id : Int), .string t.name, .slice A2 t.cols.length c2, .int .u64 (t.xmin : Int), .int .u64 (t.xmax : Int)] 83) = w2 at *
 have HKND : Hid (Calls Tryz.prog 29 #[tabV t A2 c2] w2 (KindsPost w2 1)) := by
  obtain ⟨A', c', e', h1, h2, h3⟩ := own_form HF1.out.own
  injection e' with e1 _ e2
  subst e1 e2
  have h4 := h3.kept HQ2.out (fun _ _ x => x)
  have h5 := HC2.out
  rw [HC.out] at h4 h5
  exact store_kinds HC.out h4 h5.1 h5.2
 unfold tabV at HKND
 refine HKND.out.mono ?_
 rintro e w3 ⟨v3, rfl, hf3⟩
 obtain ⟨A9, c9, rfl, hc9, hm9, hrd9⟩ := own_form hf3.own
 have HQ3 : Hid (Quiet w2 w3) := hf3.quiet
 have HQV : Hid (Quiet w w3) := (HQ1.out.trans HQ2.out).trans HQ3.out
 have HRB := Lib.hid (row_bytes_int HN.out (by exact hrd9) (HV.out.kept HQV.out (fun _ _ x => x)) hc9 hm9 HC3.out.1 HC3.out.2)
 clear hf3 hc9 hm9 hrd9 HKND
 go_wp2_with fail
 refine HRB.out.mono ?_
 rintro e wb ⟨v5, rfl, hf5⟩
 obtain ⟨A5, c5, rfl, hc5, hm5, hrd5⟩ := own_form hf5.own
 have h9 : (rowI n).length = 9 := rowI_length n
 have HQB : Hid (Quiet w wb) := HQV.out.trans hf5.quiet
 have HQ35 : Hid (Quiet w3 wb) := hf5.quiet
 have HB10b := Lib.hid (hf5.quiet.get (HQ3.out.get HB10.out (fun x => x)) (fun x => x))
 have HRD5 := Lib.hid hrd5
 have HNEW5 : Hid (∀ k, (Value.slice A5 (rowI n).length c5).ownBlock = some k -> w.heap.size <= k) := fun k e => Nat.le_trans HQV.out.size (hf5.new k e)
 have HHB := Lib.hid (HH.out.quietly HQB.out)
 have HBZ : Hid (∀ k, wb.heap.size <= k -> o k = 0) := HHB.out.big
 have HBG : Hid (∀ k, wb.heap.size <= k -> ¬ o k ≠ 0) := fun k hk e => e (HBZ.out k hk)
 have hx10 : o r10 = 0 := HH.out.big r10 (by have := HQ1.out.size; have := HR10.out; omega)
 have HX10 : Hid (¬ o r10 ≠ 0) := fun e => e hx10
 have HS7 : Hid (∀ W, Only (fun k => o k ≠ 0) wb W -> W.cell? ⟨sb, 6, none⟩ = some (.int .u64 (s.last : Int)) -> (fun w' => w'.cell? ⟨sb, 6, none⟩ = some (.int .u64 (s.last : Int)) /\ w'.cell? ⟨r10, 0, none⟩ = some (.int .u64 (t.id : Int)) /\ w'.cell? ⟨r10, 1, none⟩ = some (.string t.name) /\ w'.cell? ⟨r10, 2, none⟩ = some (.slice A2 t.cols.length c2) /\ w'.cell? ⟨r10, 3, none⟩ = some (.int .u64 (t.xmin : Int)) /\ w'.cell? ⟨r10, 4, none⟩ = some (.int .u64 (t.xmax : Int))) W) := fun W hq h6 => by
  have b := tabBox_cells (hq.get HB10b.out HX10.out)
  exact ⟨h6, b⟩
 have HC6 := Lib.hid HHB.out.cell6.1
 have HPUT : Hid (∀ W, Quiet wb W -> Calls Tryz.prog 30 #[ptrV sb, .agg #[.int .u64 (t.id : Int), .string t.name, .slice A2 t.cols.length c2, .int .u64 (t.xmin : Int), .int .u64 (t.xmax : Int)], .agg #[.int .u64 (ln : Int), .int .u64 (x : Int), .int .u64 0, .int .i64 (-1), .int .i64 (-1), .slice A5 9 c5]] W (PutPost W sb o s1 p q)) := fun W hq => by
  obtain ⟨A', c', e', h1, h2, h3⟩ := own_form HF1.out.own
  injection e' with e1 _ e2
  subst e1 e2
  have hp := HPU.out W A2 c2 A5 c5 (HQB.out.trans hq) ((((h3.kept HQ2.out (fun _ _ x => x)).kept (HQ3.out.trans HQ35.out) (fun _ _ x => x)).kept hq (fun _ _ x => x)).mono (fun k e => HF1.out.new k e)) HC2.out.1 HC2.out.2 (by have := (HRD5.out.kept hq (fun _ _ x => x)).mono (T := fun k => w.heap.size <= k) (fun k e => HNEW5.out k e); rw [rowI_length] at this; exact this) (by have := hc5; rw [rowI_length] at this; exact this) hm5
  rw [HLN.out] at hp
  unfold tabV tupV at hp
  dsimp only at hp
  rw [rowI_length] at hp
  exact hp
 clear hf5 hrd5 hc5 hm5 hx10 HRB
 go_wp2_with fail
 apply ins_key (wb := wb) (sb := sb) (p := p) (q := q) (o := o) (s' := s1)
 case main =>
   intro KEY
   have hw := HW.out
   have en := HEN.out
   refine wp_region_held_drew (S := (fun w' => w'.cell? ⟨sb, 6, none⟩ = some (.int .u64 (s.last : Int)) /\ w'.cell? ⟨r10, 0, none⟩ = some (.int .u64 (t.id : Int)) /\ w'.cell? ⟨r10, 1, none⟩ = some (.string t.name) /\ w'.cell? ⟨r10, 2, none⟩ = some (.slice A2 t.cols.length c2) /\ w'.cell? ⟨r10, 3, none⟩ = some (.int .u64 (t.xmin : Int)) /\ w'.cell? ⟨r10, 4, none⟩ = some (.int .u64 (t.xmax : Int)))) (by kernel_rfl) (HS7.out _ ((Only.refl _ _).drew) (((Only.refl (fun _ => False) wb).drew).cell HC6.out (fun x => x))) (fun hHeld => ?_)
   simp only [List.size_toArray, List.length_cons, List.length_nil, Nat.reduceAdd]
   have q0 : Quiet wb wb.drew := (Only.refl _ _).drew
   generalize wb.drew = d0 at q0 hHeld ⊢
   refine zT 0 ?_
   refine zT 1 ?_
   refine zT 2 ?_
   refine zT 3 ?_
   refine zT 4 ?_
   refine zT 5 ?_
   refine zT 6 ?_
   refine zT 7 ?_
   refine zT 9 ?_
   refine wpAnyH_ready (rs := [8, 15]) (by kernel_rfl) (by simp) ?_
   refine zA ?_ ?_
   ·intro K hK
    go_simp
    go_at_call 31
    refine (store_nowhere _).mono ?_
    rintro e d1 ⟨rfl, hqn⟩
    have q1 := q0.trans hqn
    clear hqn
    dsimp only
    refine hK.out _ _ ?_ (fun hHeld => ?_)
    ·exact HS7.out _ (q1.mono (fun _ _ x => x.elim)) (q1.cell HC6.out (fun x => x))
    clear hK K
    (try simp only [Act.put, zPA, zPZ, zPS])
    refine zT 10 ?_
    refine wpAnyH_ready (rs := [11, 15]) (by kernel_rfl) (by simp) ?_
    refine zA ?_ ?_
    ·intro K hK
     go_simp
     go_at_call 30
     refine (HPUT.out _ q1).mono ?_
     rintro e d2 ⟨rfl, o2, ho2, hw2, hst2⟩
     have q2 := (q1.mono (T := (fun k => o k ≠ 0)) (fun _ _ x => x.elim)).trans hw2
     have hz2 := q1.size
     have ho3 : ∀ k, k < wb.heap.size -> o2 k = o k := fun k hk => ho2 k (by omega)
     clear ho2 hw2 hz2
     dsimp only
     refine hK.out _ _ ?_ (fun hHeld => ?_)
     ·exact HS7.out _ q2 (last_cell HL1.out hst2.cell6.1)
     clear hK K
     (try simp only [Act.put, zPA, zPZ, zPS])
     refine zT 12 ?_
     refine zT 13 ?_
     refine zT 14 ?_
     refine zR 15 ?_
     intro K hK
     go_simp
     refine hK.out _ _ ?_ (fun hHeld => ?_)
     ·exact HS7.out _ (q2.alloc _) (((Only.refl (fun _ => False) d2).alloc _).cell (last_cell HL1.out hst2.cell6.1) (fun x => x))
     clear hK K
     (try simp only [Act.put, zPA, zPZ, zPS])
     have hbig2 := StoreAt.big hst2
     have qe2 := q2.alloc (.cells #[.int .i64 0, .int .i64 0] 43)
     have hb1 := alloc_new d2 (.cells #[.int .i64 0, .int .i64 0] 43)
     have hnp : wb.heap.size <= d2.heap.size := q2.size
     have hst2 := hst2.quietly ((Only.refl (fun _ => False) d2).alloc (.cells #[.int .i64 0, .int .i64 0] 43))
     have hop : o2 d2.heap.size = 0 := hbig2 _ (Nat.le_refl _)
     obtain ⟨pt, hpt⟩ : ∃ pt, d2.heap.size = pt := ⟨_, rfl⟩
     (try rw [hpt] at hb1)
     (try rw [hpt] at hnp)
     (try rw [hpt])
     (try rw [hpt] at hop)
     generalize d2.alloc (.cells #[.int .i64 0, .int .i64 0] 43) = e2 at *
     clear hpt
     have z0 := cell_of hb1 0
     have z1 := cell_of hb1 1
     have zf := fun o => frozen_of hb1 o
     simp only [zGA, zGS, zGZ] at z0 z1
     refine zR 16 ?_
     intro K hK
     go_simp
     refine hK.out _ _ ?_ (fun hHeld => ?_)
     ·exact HS7.out _ (ins_leaf qe2 hnp hb1 hst2 hop ho3 (p := p) (q := q)).only (last_cell HL1.out (ins_leaf qe2 hnp hb1 hst2 hop ho3 (p := p) (q := q)).cell6)
     clear hK K
     (try simp only [Act.put, zPA, zPZ, zPS])
     have HG := (ins_leaf qe2 hnp hb1 hst2 hop ho3 (p := p) (q := q))
     refine zT 17 ?_
     refine wpAnyH_done (by kernel_rfl) ?_ _
     generalize (e2.setCell ⟨pt, 0, none⟩ (.int .i64 p)).setCell ⟨pt, 1, none⟩ (.int .i64 q) = WF at HG ⊢
     exact KEY _ _ HG
    refine zA ?_ AllReadyH.nil
    intro K hK
    go_simp
    refine hK.out _ _ ?_ (fun hHeld => ?_)
    ·exact HS7.out _ ((q1.alloc _).mono (fun _ _ x => x.elim)) ((q1.alloc _).cell HC6.out (fun x => x))
    clear hK K
    (try simp only [Act.put, zPA, zPZ, zPS])
    have qe1 := q1.alloc (.cells #[.int .i64 0, .int .i64 0] 43)
    have hb1 := alloc_new d1 (.cells #[.int .i64 0, .int .i64 0] 43)
    have hnp : wb.heap.size <= d1.heap.size := q1.size
    obtain ⟨pt, hpt⟩ : ∃ pt, d1.heap.size = pt := ⟨_, rfl⟩
    (try rw [hpt] at hb1)
    (try rw [hpt] at hnp)
    (try rw [hpt])
    generalize d1.alloc (.cells #[.int .i64 0, .int .i64 0] 43) = e1 at *
    clear hpt
    refine zR 11 ?_
    intro K hK
    go_simp
    go_at_call 30
    refine (HPUT.out _ qe1).mono ?_
    rintro e d2 ⟨rfl, o2, ho2, hw2, hst2⟩
    have q2 := (qe1.mono (T := (fun k => o k ≠ 0)) (fun _ _ x => x.elim)).trans hw2
    have hz2 := qe1.size
    have hb2 := hw2.get hb1 (HBG.out _ hnp)
    have hop : o2 pt = 0 := by rw [ho2 pt (lt_of_get hb1)]; exact HBZ.out _ hnp
    have ho3 : ∀ k, k < wb.heap.size -> o2 k = o k := fun k hk => ho2 k (by omega)
    clear ho2 hw2 hz2
    dsimp only
    refine hK.out _ _ ?_ (fun hHeld => ?_)
    ·exact HS7.out _ q2 (last_cell HL1.out hst2.cell6.1)
    clear hK K
    (try simp only [Act.put, zPA, zPZ, zPS])
    have z0 := cell_of hb2 0
    have z1 := cell_of hb2 1
    have zf := fun o => frozen_of hb2 o
    simp only [zGA, zGS, zGZ] at z0 z1
    refine zT 12 ?_
    refine zT 13 ?_
    refine zT 14 ?_
    refine zR 16 ?_
    intro K hK
    go_simp
    refine hK.out _ _ ?_ (fun hHeld => ?_)
    ·exact HS7.out _ (ins_leaf q2 hnp hb2 hst2 hop ho3 (p := p) (q := q)).only (last_cell HL1.out (ins_leaf q2 hnp hb2 hst2 hop ho3 (p := p) (q := q)).cell6)
    clear hK K
    (try simp only [Act.put, zPA, zPZ, zPS])
    have HG := (ins_leaf q2 hnp hb2 hst2 hop ho3 (p := p) (q := q))
    refine zT 17 ?_
    refine wpAnyH_done (by kernel_rfl) ?_ _
    generalize (d2.setCell ⟨pt, 0, none⟩ (.int .i64 p)).setCell ⟨pt, 1, none⟩ (.int .i64 q) = WF at HG ⊢
    exact KEY _ _ HG
   refine zA ?_ AllReadyH.nil
   intro K hK
   go_simp
   refine hK.out _ _ ?_ (fun hHeld => ?_)
   ·exact HS7.out _ ((q0.alloc _).mono (fun _ _ x => x.elim)) ((q0.alloc _).cell HC6.out (fun x => x))
   clear hK K
   (try simp only [Act.put, zPA, zPZ, zPS])
   have qe0 := q0.alloc (.cells #[.int .i64 0, .int .i64 0] 43)
   have hb1 := alloc_new d0 (.cells #[.int .i64 0, .int .i64 0] 43)
   have hnp : wb.heap.size <= d0.heap.size := q0.size
   obtain ⟨pt, hpt⟩ : ∃ pt, d0.heap.size = pt := ⟨_, rfl⟩
   (try rw [hpt] at hb1)
   (try rw [hpt] at hnp)
   (try rw [hpt])
   generalize d0.alloc (.cells #[.int .i64 0, .int .i64 0] 43) = e0 at *
   clear hpt
   refine zR 8 ?_
   intro K hK
   go_simp
   go_at_call 31
   refine (store_nowhere _).mono ?_
   rintro e d1 ⟨rfl, hqn⟩
   have q1 := qe0.trans hqn
   have hbq := hqn.get hb1 (fun x => x)
   clear hb1
   have hb1 := hbq
   clear hbq
   clear hqn
   dsimp only
   refine hK.out _ _ ?_ (fun hHeld => ?_)
   ·exact HS7.out _ (q1.mono (fun _ _ x => x.elim)) (q1.cell HC6.out (fun x => x))
   clear hK K
   (try simp only [Act.put, zPA, zPZ, zPS])
   refine zT 10 ?_
   refine zR 11 ?_
   intro K hK
   go_simp
   go_at_call 30
   refine (HPUT.out _ q1).mono ?_
   rintro e d2 ⟨rfl, o2, ho2, hw2, hst2⟩
   have q2 := (q1.mono (T := (fun k => o k ≠ 0)) (fun _ _ x => x.elim)).trans hw2
   have hz2 := q1.size
   have hb2 := hw2.get hb1 (HBG.out _ hnp)
   have hop : o2 pt = 0 := by rw [ho2 pt (lt_of_get hb1)]; exact HBZ.out _ hnp
   have ho3 : ∀ k, k < wb.heap.size -> o2 k = o k := fun k hk => ho2 k (by omega)
   clear ho2 hw2 hz2
   dsimp only
   refine hK.out _ _ ?_ (fun hHeld => ?_)
   ·exact HS7.out _ q2 (last_cell HL1.out hst2.cell6.1)
   clear hK K
   (try simp only [Act.put, zPA, zPZ, zPS])
   have z0 := cell_of hb2 0
   have z1 := cell_of hb2 1
   have zf := fun o => frozen_of hb2 o
   simp only [zGA, zGS, zGZ] at z0 z1
   refine zT 12 ?_
   refine zT 13 ?_
   refine zT 14 ?_
   refine zR 16 ?_
   intro K hK
   go_simp
   refine hK.out _ _ ?_ (fun hHeld => ?_)
   ·exact HS7.out _ (ins_leaf q2 hnp hb2 hst2 hop ho3 (p := p) (q := q)).only (last_cell HL1.out (ins_leaf q2 hnp hb2 hst2 hop ho3 (p := p) (q := q)).cell6)
   clear hK K
   (try simp only [Act.put, zPA, zPZ, zPS])
   have HG := (ins_leaf q2 hnp hb2 hst2 hop ho3 (p := p) (q := q))
   refine zT 17 ?_
   refine wpAnyH_done (by kernel_rfl) ?_ _
   generalize (d2.setCell ⟨pt, 0, none⟩ (.int .i64 p)).setCell ⟨pt, 1, none⟩ (.int .i64 q) = WF at HG ⊢
   exact KEY _ _ HG
 case key =>
  intro pt W HL0
  have HL := Lib.hid HL0
  obtain ⟨o', ho', hst, hop⟩ := HL0.st
  have hq := HL0.only
  clear HL0 HS7 HPUT HC6
  have HPO : Hid (StoreInsPost w sb o { s1 with last := s.last + 1 } (.returned (.int .i64 0)) (W.setCell ⟨sb, 6, none⟩ (.int .u64 (ln : Int)))) := by
   obtain ⟨lb, bb, pb, mh, mt, ms, fh, ft, fs, h⟩ := hst
   have h2 := h.setLast (z := (ln : Int)) rfl HLA.out
   have hs1 := HHB.out.cell6.2
   have h3 : StoreRow (W.setCell ⟨sb, 6, none⟩ (.int .u64 (ln : Int))) sb o' { s1 with last := s.last + 1 } lb bb pb mh mt ms fh ft fs := by
    rw [HLN.out]
    exact h2
   refine ⟨rfl, o', fun k hk => ho' k (Nat.lt_of_lt_of_le hk HQB.out.size), ?_, _, _, _, _, _, _, _, _, _, h3⟩
   exact ((HQB.out.mono (fun _ _ x => x.elim)).trans' hq (fun k _ x => x)).setCell (fun _ => by show o sb ≠ 0; omega) _
  have c6 : W.cell? ⟨sb, 6, none⟩ = some (.int .u64 (s.last : Int)) := last_cell HL1.out hst.cell6.1
  have f6 : W.frozen? ⟨sb, 6, none⟩ = false := by
   obtain ⟨lb, bb, pb, mh, mt, ms, fh, ft, fs, h⟩ := hst
   exact frozen_of h.box 6
  have hw := HW.out
  have en := HEN.out
  clear hst hop hq
  go_wp2
  go_ret
  exact HPO.out
theorem store_insert {w : World} {sb x i c3 n left' : Nat} {o : Nat -> Nat} {s : St} {y : Snap} {t : TE} {name nm : ByteArray} {Sv : Nat -> Prop} {A3 : Option Addr} {H H' : List (List (Option Tup))} {p q : Int} (h : StoreAt w sb o s) (hx : U64 x) (hy : s.sn x = some y) (hf : findT s.L y name s.T = some i) (ht : s.T[i]? = some t) (hc : t.cols = [(nm, 1)]) (hid : U64 t.id)
  (hI : s.I = []) (hH : s.hs t.id = some H) (hle : H.length + s.left <= 256) (hn : n < 256) (hv : Rd w Sv 4 A3 1 (intRow n)) (hc3 : 1 <= c3) (hm3 : c3 <= maxLen) (hlast : s.last + 1 < 18446744073709551616) (hins : hIns H s.left ⟨s.last + 1, x, 0, -1, -1, rowI n⟩ = ((p, q, 0), H', left')) :
  Calls Tryz.prog 10 #[ptrV sb, .int .u64 (x : Int), .string name, .slice A3 1 c3] w (StoreInsPost w sb o (insSt s t.id H' left')) :=
 store_insert_of (s1 := putSt s t.id H' left') h hx hy hf ht hc hn hv hc3 hm3 hlast rfl (fun W A2 c2 A5 c5 hq _ _ _ hd h9 _ => store_put0 (v := ⟨s.last + 1, x, 0, -1, -1, rowI n⟩) (cd := c5) (A2 := A2) (c2 := c2) (h.quietly hq) hI hid hH hle (rowI_bytes hn) (by show Rd W _ 1 A5 (rowI n).length _; rw [rowI_length]; exact hd) (fun k hk => h.big k hk) hins)
theorem upd_upd {α : Type} (f : Nat -> α) (i : Nat) (a b : α) : upd (upd f i a) i b = upd f i b := by
 funext k
 by_cases e : k = i <;> simp [upd, e]
def UpdPost (w : World) (sb : Nat) (o : Nat -> Nat) (s s' : St) (code : Nat) (z : Int) (e : Ending) (w' : World) : Prop :=
 if code = 0 then e = .returned (.int .i64 z) /\ StepTo w sb o s' w' else e = .returned (.int .i64 (code : Int)) /\ StepTo w sb o s w'
set_option maxHeartbeats 4000000 in
theorem store_update_of {w : World} {sb x i c3 n nr cr code : Nat} {o : Nat -> Nat} {s s1 : St} {y : Snap} {t : TE} {name nm : ByteArray} {Sv : Nat -> Prop} {A3 Ar : Option Addr} {H H1 H2 : List (List (Option Tup))} {p q pg sl z : Int} {v : Tup} (h : StoreAt w sb o s) (hx : U64 x) (hy : s.sn x = some y) (hf : findT s.L y name s.T = some i) (ht : s.T[i]? = some t) (hc : t.cols = [(nm, 1)]) (hid : U64 t.id)
  (hH : s.hs t.id = some H) (hn : n < 256) (hv : Rd w Sv 4 A3 1 (intRow n)) (hc3 : 1 <= c3) (hm3 : c3 <= maxLen) (hg : hGet H pg sl = some v) (hx1 : U64 v.xmin) (hx2 : U64 v.xmax) (hcode : freeS s.L y v.xmin v.xmax = code)
  (hs1 : s1.hs t.id = some H1) (hst : hStamp H1 pg sl x p q = (z, H2))
  (hput : code = 0 -> ∀ (W : World) (A2 : Option Addr) (c2 : Nat) (A5 : Option Addr) (c5 : Nat), Quiet w W -> Rd W (fun k => w.heap.size <= k) 2 A2 t.cols.length (colsV t.cols) -> t.cols.length <= c2 -> c2 <= maxLen -> Rd W (fun k => w.heap.size <= k) 1 A5 9 (bytesV (rowI n)) -> 9 <= c5 -> c5 <= maxLen →
    Calls Tryz.prog 30 #[ptrV sb, tabV t A2 c2, tupV ⟨v.row, x, 0, -1, -1, rowI n⟩ A5 c5] W (PutPost W sb o s1 p q)) :
  Calls Tryz.prog 14 #[ptrV sb, .int .u64 (x : Int), .string name, .agg #[.int .u64 v.row, .int .i64 pg, .int .i64 sl, .slice Ar nr cr], .slice A3 1 c3] w (UpdPost w sb o s { s1 with hs := upd s1.hs t.id (some H2) } code z) := by
 have hq0 : Quiet w (w.alloc (.cells #[.int .u64 v.row, .int .i64 pg, .int .i64 sl, .slice Ar nr cr] 45)) := (Only.refl _ _).alloc _
 have HO := Lib.hid (store_open (h.quietly hq0) hx hy hf ht)
 have HB8 := Lib.hid (alloc_new w (.cells #[.int .u64 v.row, .int .i64 pg, .int .i64 sl, .slice Ar nr cr] 45))
 have HQ0 := Lib.hid hq0
 obtain ⟨r8, hr8⟩ : ∃ r8, w.heap.size = r8 := ⟨_, rfl⟩
 rw [hr8] at HB8
 have HR8 := Lib.hid hr8
 have HH := Lib.hid h
 have HC := Lib.hid hc
 have HID := Lib.hid hid
 have HH0 := Lib.hid hH
 have HS1' := Lib.hid hs1
 have HN := Lib.hid hn
 have HV := Lib.hid hv
 have HC3 := Lib.hid (And.intro hc3 hm3)
 have HG := Lib.hid (And.intro hg (And.intro hx1 (And.intro hx2 hcode)))
 have HPU := Lib.hid hput
 have HST := Lib.hid hst
 obtain ⟨POST, hPOST⟩ : ∃ POST, UpdPost w sb o s { s1 with hs := upd s1.hs t.id (some H2) } code z = POST := ⟨_, rfl⟩
 rw [hPOST]
 have HPOST := Lib.hid hPOST
 clear h hx hy hf ht hc hid hH hn hv hc3 hm3 hg hx1 hx2 hcode hput hs1 hst hq0 hPOST hr8
 go_enter Tryz.func14, Tryz.ntmps14
 go_wp2_with fail
 rw [HR8.out]
 generalize w.alloc (.cells #[.int .u64 v.row, .int .i64 pg, .int .i64 sl, .slice Ar nr cr] 45) = w0 at *
 refine HO.out.mono ?_
 rintro e w1 ⟨A, c, A2, c2, rfl, hq1, hs1, hf1, hc2, hm2⟩
 clear HO
 have HQ1 := Lib.hid (HQ0.out.trans hq1)
 have HF1 := Lib.hid hf1
 have HS1 := Lib.hid hs1
 have HC2 := Lib.hid (And.intro hc2 hm2)
 have HB81 := Lib.hid (hq1.get HB8.out (fun x => x))
 have q2 : Quiet w1 ((w1.alloc (.cells (snapCells y A c) 73)).alloc (.cells #[.int .u64 (t.id : Int), .string t.name, .slice A2 t.cols.length c2, .int .u64 (t.xmin : Int), .int .u64 (t.xmax : Int)] 83)) := ((Only.refl _ _).alloc _).alloc _
 have b12 := two_new w1 (.cells (snapCells y A c) 73) (.cells #[.int .u64 (t.id : Int), .string t.name, .slice A2 t.cols.length c2, .int .u64 (t.xmin : Int), .int .u64 (t.xmax : Int)] 83)
 have b11 := alloc_old (alloc_new w1 (.cells (snapCells y A c) 73)) (.cells #[.int .u64 (t.id : Int), .string t.name, .slice A2 t.cols.length c2, .int .u64 (t.xmin : Int), .int .u64 (t.xmax : Int)] 83)
 have HQ2 := Lib.hid q2
 have HB12 := Lib.hid b12
 have HB11 := Lib.hid b11
 obtain ⟨r11, hr11⟩ : ∃ r11, w1.heap.size = r11 := ⟨_, rfl⟩
 obtain ⟨r12, hr12⟩ : ∃ r12, r11 + 1 = r12 := ⟨_, rfl⟩
 rw [hr11] at HB12 HB11
 rw [hr12] at HB12
 have HR12 : Hid (w1.heap.size <= r12) := by show _ <= _; omega
 have HE11 := Lib.hid hr11
 have HE12 := Lib.hid hr12
 clear hq1 hs1 hf1 hc2 hm2 q2 b12 b11 hr11 hr12
 unfold snapV tabV
 go_wp2_with fail
 (try simp only [World.size_alloc])
 rw [HE11.out, HE12.out]
 generalize (w1.alloc (.cells #[.int .u64 (y.own : Int), .int .u64 (y.xmin : Int), .int .u64 (y.xmax : Int), .slice A y.run.length c] 73)).alloc (.cells #[.int .u64 (t.id : Int), .string t.name, .slice A2 t.cols.length c2, .int .u64 (t.xmin : Int), .int .u64 (t.xmax : Int)] 83) = w2 at *
 have HKND : Hid (Calls Tryz.prog 29 #[tabV t A2 c2] w2 (KindsPost w2 1)) := by
  obtain ⟨A', c', e', h1, h2, h3⟩ := own_form HF1.out.own
  injection e' with e1 _ e2
  subst e1 e2
  have h4 := h3.kept HQ2.out (fun _ _ x => x)
  have h5 := HC2.out
  rw [HC.out] at h4 h5
  exact store_kinds HC.out h4 h5.1 h5.2
 unfold tabV at HKND
 refine HKND.out.mono ?_
 rintro e w3 ⟨v3, rfl, hf3⟩
 obtain ⟨A9, c9, rfl, hc9, hm9, hrd9⟩ := own_form hf3.own
 have HQ3 : Hid (Quiet w2 w3) := hf3.quiet
 have HQV : Hid (Quiet w w3) := (HQ1.out.trans HQ2.out).trans HQ3.out
 have HRB := Lib.hid (row_bytes_int HN.out (by exact hrd9) (HV.out.kept HQV.out (fun _ _ x => x)) hc9 hm9 HC3.out.1 HC3.out.2)
 clear hf3 hc9 hm9 hrd9 HKND
 go_wp2_with fail
 refine HRB.out.mono ?_
 rintro e w4 ⟨v5, rfl, hf5⟩
 obtain ⟨A5, c5, rfl, hc5, hm5, hrd5⟩ := own_form hf5.own
 have h9 : (rowI n).length = 9 := rowI_length n
 have HQ4 : Hid (Quiet w w4) := HQV.out.trans hf5.quiet
 have HQ24 : Hid (Quiet w2 w4) := HQ3.out.trans hf5.quiet
 have HRD5 := Lib.hid hrd5
 have HNEW5 : Hid (∀ k, (Value.slice A5 (rowI n).length c5).ownBlock = some k -> w.heap.size <= k) := fun k e => Nat.le_trans HQV.out.size (hf5.new k e)
 have HHW := Lib.hid (HH.out.quietly HQ4.out)
 have HSW := Lib.hid (HS1.out.kept (HQ2.out.trans HQ24.out) (fun _ _ x => x))
 have HVE : Hid (Calls Tryz.prog 35 #[ptrV sb, snapV y A c, tabV t A2 c2, .agg #[.int .u64 v.row, .int .i64 pg, .int .i64 sl, .slice Ar nr cr]] w4 (VersPost w4 v code)) := by
  have hv := store_version (A2 := A2) (c2 := c2) (A3 := Ar) (n3 := nr) (c3 := cr) HHW.out HSW.out HID.out HH0.out HG.out.1 HG.out.2.1 HG.out.2.2.1
  rw [HG.out.2.2.2] at hv
  exact hv
 unfold snapV tabV at HVE
 have b12 := tabBox_cells (HQ24.out.get HB12.out (fun x => x))
 have b11 := snapBox_cells (HQ24.out.get HB11.out (fun x => x))
 have hb8 := (HQ2.out.trans HQ24.out).get HB81.out (fun x => x)
 have x0 : w4.cell? ⟨r8, 0, none⟩ = some (.int .u64 v.row) := by rw [cell_of hb8]; rfl
 have x1 : w4.cell? ⟨r8, 1, none⟩ = some (.int .i64 pg) := by rw [cell_of hb8]; rfl
 have x2 : w4.cell? ⟨r8, 2, none⟩ = some (.int .i64 sl) := by rw [cell_of hb8]; rfl
 have x3 : w4.cell? ⟨r8, 3, none⟩ = some (.slice Ar nr cr) := by rw [cell_of hb8]; rfl
 have HB8W := Lib.hid hb8
 have HB12W := Lib.hid (HQ24.out.get HB12.out (fun x => x))
 have HC5 : Hid (9 <= c5 /\ c5 <= maxLen) := ⟨by rw [rowI_length] at hc5; exact hc5, hm5⟩
 clear hf5 hrd5 hc5 hm5 HRB hb8
 go_wp2_with fail
 refine HVE.out.mono ?_
 rintro e w5 ⟨A6, c6, rfl, hq5⟩
 have HQB : Hid (Quiet w4 (w5.alloc (.cells #[.int .u64 v.row, .int .u64 v.xmin, .int .u64 v.xmax, .int .i64 v.pg, .int .i64 v.sl, .slice A6 v.data.length c6] 95))) := hq5.alloc _
 clear hq5 x0 x1 x2 x3 b11 b12 HVE
 unfold tupV
 by_cases hz : code = 0
 ·subst hz
  go_wp2_with fail
  generalize w5.alloc (.cells #[.int .u64 v.row, .int .u64 v.xmin, .int .u64 v.xmax, .int .i64 v.pg, .int .i64 v.sl, .slice A6 v.data.length c6] 95) = wb at *
  have HHB := Lib.hid (HHW.out.quietly HQB.out)
  have HQWB : Hid (Quiet w wb) := HQ4.out.trans HQB.out
  have HB8b := Lib.hid (HQB.out.get HB8W.out (fun x => x))
  have HB12b := Lib.hid (HQB.out.get HB12W.out (fun x => x))
  have HBZ : Hid (∀ k, wb.heap.size <= k -> o k = 0) := HHB.out.big
  have HBG : Hid (∀ k, wb.heap.size <= k -> ¬ o k ≠ 0) := fun k hk e => e (HBZ.out k hk)
  have HX12 : Hid (¬ o r12 ≠ 0) := fun e => e (HH.out.big r12 (by have := HQ1.out.size; have := HR12.out; omega))
  have HX8 : Hid (¬ o r8 ≠ 0) := fun e => e (HH.out.big r8 (by have := HR8.out; omega))
  have HS7 : Hid (∀ W, Only (fun k => o k ≠ 0) wb W -> (fun w' => w'.cell? ⟨r8, 0, none⟩ = some (.int .u64 (v.row : Int)) /\ w'.cell? ⟨r12, 0, none⟩ = some (.int .u64 (t.id : Int)) /\ w'.cell? ⟨r12, 1, none⟩ = some (.string t.name) /\ w'.cell? ⟨r12, 2, none⟩ = some (.slice A2 t.cols.length c2) /\ w'.cell? ⟨r12, 3, none⟩ = some (.int .u64 (t.xmin : Int)) /\ w'.cell? ⟨r12, 4, none⟩ = some (.int .u64 (t.xmax : Int))) W) := fun W hq => by
   have b := tabBox_cells (hq.get HB12b.out HX12.out)
   have b8 := hq.get HB8b.out HX8.out
   exact ⟨by rw [cell_of b8]; rfl, b⟩
  have HPUT : Hid (∀ W, Quiet wb W -> Calls Tryz.prog 30 #[ptrV sb, .agg #[.int .u64 (t.id : Int), .string t.name, .slice A2 t.cols.length c2, .int .u64 (t.xmin : Int), .int .u64 (t.xmax : Int)], .agg #[.int .u64 (v.row : Int), .int .u64 (x : Int), .int .u64 0, .int .i64 (-1), .int .i64 (-1), .slice A5 9 c5]] W (PutPost W sb o s1 p q)) := fun W hq => by
   obtain ⟨A', c', e', h1, h2, h3⟩ := own_form HF1.out.own
   injection e' with e1 _ e2
   subst e1 e2
   have hp := HPU.out (by trivial) W A2 c2 A5 c5 (HQWB.out.trans hq) ((((h3.kept (HQ2.out.trans HQ24.out) (fun _ _ x => x)).kept (HQB.out.trans hq) (fun _ _ x => x))).mono (fun k e => Nat.le_trans HQ0.out.size (HF1.out.new k e))) HC2.out.1 HC2.out.2 (by have := (HRD5.out.kept (HQB.out.trans hq) (fun _ _ x => x)).mono (T := fun k => w.heap.size <= k) (fun k e => HNEW5.out k e); rw [rowI_length] at this; exact this) HC5.out.1 HC5.out.2
   unfold tabV tupV at hp
   dsimp only at hp
   rw [rowI_length] at hp
   exact hp
  apply ins_key (wb := wb) (sb := sb) (p := p) (q := q) (o := o) (s' := s1)
  case main =>
    intro KEY
    refine zH HS7 ((Only.refl _ _).drew) (fun hHeld => ?_)
    simp only [List.size_toArray, List.length_cons, List.length_nil, Nat.reduceAdd]
    have q0 : Quiet wb wb.drew := (Only.refl _ _).drew
    generalize wb.drew = d0 at q0 hHeld ⊢
    refine zT 0 ?_
    refine zT 1 ?_
    refine zT 2 ?_
    refine zT 3 ?_
    refine zT 4 ?_
    refine zT 6 ?_
    refine wpAnyH_ready (rs := [5, 12]) (by kernel_rfl) (by simp) ?_
    refine zA ?_ ?_
    ·intro K hK
     go_simp
     go_at_call 31
     refine (store_nowhere _).mono ?_
     rintro e d1 ⟨rfl, hqn⟩
     have q1 := q0.trans hqn
     clear hqn
     dsimp only
     refine hK.out _ _ ?_ (fun hHeld => ?_)
     ·exact HS7.out _ (q1.mono (fun _ _ x => x.elim))
     clear hK K
     (try simp only [Act.put, zPA, zPZ, zPS])
     refine zT 7 ?_
     refine wpAnyH_ready (rs := [8, 12]) (by kernel_rfl) (by simp) ?_
     refine zA ?_ ?_
     ·intro K hK
      go_simp
      go_at_call 30
      refine (HPUT.out _ q1).mono ?_
      rintro e d2 ⟨rfl, o2, ho2, hw2, hst2⟩
      have q2 := (q1.mono (T := (fun k => o k ≠ 0)) (fun _ _ x => x.elim)).trans hw2
      have hz2 := q1.size
      have ho3 : ∀ k, k < wb.heap.size -> o2 k = o k := fun k hk => ho2 k (by omega)
      clear ho2 hw2 hz2
      dsimp only
      refine hK.out _ _ ?_ (fun hHeld => ?_)
      ·exact HS7.out _ q2
      clear hK K
      (try simp only [Act.put, zPA, zPZ, zPS])
      refine zT 9 ?_
      refine zT 10 ?_
      refine zT 11 ?_
      refine zR 12 ?_
      intro K hK
      go_simp
      refine hK.out _ _ ?_ (fun hHeld => ?_)
      ·exact HS7.out _ (q2.alloc _)
      clear hK K
      (try simp only [Act.put, zPA, zPZ, zPS])
      have hbig2 := StoreAt.big hst2
      have qe2 := q2.alloc (.cells #[.int .i64 0, .int .i64 0] 43)
      have hb1 := alloc_new d2 (.cells #[.int .i64 0, .int .i64 0] 43)
      have hnp : wb.heap.size <= d2.heap.size := q2.size
      have hst2 := hst2.quietly ((Only.refl (fun _ => False) d2).alloc (.cells #[.int .i64 0, .int .i64 0] 43))
      have hop : o2 d2.heap.size = 0 := hbig2 _ (Nat.le_refl _)
      obtain ⟨pt, hpt⟩ : ∃ pt, d2.heap.size = pt := ⟨_, rfl⟩
      (try rw [hpt] at hb1)
      (try rw [hpt] at hnp)
      (try rw [hpt])
      (try rw [hpt] at hop)
      generalize d2.alloc (.cells #[.int .i64 0, .int .i64 0] 43) = e2 at *
      clear hpt
      have z0 := cell_of hb1 0
      have z1 := cell_of hb1 1
      have zf := fun o => frozen_of hb1 o
      simp only [zGA, zGS, zGZ] at z0 z1
      refine zR 13 ?_
      intro K hK
      go_simp
      refine hK.out _ _ ?_ (fun hHeld => ?_)
      ·exact HS7.out _ (ins_leaf qe2 hnp hb1 hst2 hop ho3 (p := p) (q := q)).only
      clear hK K
      (try simp only [Act.put, zPA, zPZ, zPS])
      have HG := (ins_leaf qe2 hnp hb1 hst2 hop ho3 (p := p) (q := q))
      refine zT 14 ?_
      refine wpAnyH_done (by kernel_rfl) ?_ _
      generalize (e2.setCell ⟨pt, 0, none⟩ (.int .i64 p)).setCell ⟨pt, 1, none⟩ (.int .i64 q) = WF at HG ⊢
      exact KEY _ _ HG
     refine zA ?_ AllReadyH.nil
     intro K hK
     go_simp
     refine hK.out _ _ ?_ (fun hHeld => ?_)
     ·exact HS7.out _ ((q1.alloc _).mono (fun _ _ x => x.elim))
     clear hK K
     (try simp only [Act.put, zPA, zPZ, zPS])
     have qe1 := q1.alloc (.cells #[.int .i64 0, .int .i64 0] 43)
     have hb1 := alloc_new d1 (.cells #[.int .i64 0, .int .i64 0] 43)
     have hnp : wb.heap.size <= d1.heap.size := q1.size
     obtain ⟨pt, hpt⟩ : ∃ pt, d1.heap.size = pt := ⟨_, rfl⟩
     (try rw [hpt] at hb1)
     (try rw [hpt] at hnp)
     (try rw [hpt])
     generalize d1.alloc (.cells #[.int .i64 0, .int .i64 0] 43) = e1 at *
     clear hpt
     refine zR 8 ?_
     intro K hK
     go_simp
     go_at_call 30
     refine (HPUT.out _ qe1).mono ?_
     rintro e d2 ⟨rfl, o2, ho2, hw2, hst2⟩
     have q2 := (qe1.mono (T := (fun k => o k ≠ 0)) (fun _ _ x => x.elim)).trans hw2
     have hz2 := qe1.size
     have hb2 := hw2.get hb1 (HBG.out _ hnp)
     have hop : o2 pt = 0 := by rw [ho2 pt (lt_of_get hb1)]; exact HBZ.out _ hnp
     have ho3 : ∀ k, k < wb.heap.size -> o2 k = o k := fun k hk => ho2 k (by omega)
     clear ho2 hw2 hz2
     dsimp only
     refine hK.out _ _ ?_ (fun hHeld => ?_)
     ·exact HS7.out _ q2
     clear hK K
     (try simp only [Act.put, zPA, zPZ, zPS])
     have z0 := cell_of hb2 0
     have z1 := cell_of hb2 1
     have zf := fun o => frozen_of hb2 o
     simp only [zGA, zGS, zGZ] at z0 z1
     refine zT 9 ?_
     refine zT 10 ?_
     refine zT 11 ?_
     refine zR 13 ?_
     intro K hK
     go_simp
     refine hK.out _ _ ?_ (fun hHeld => ?_)
     ·exact HS7.out _ (ins_leaf q2 hnp hb2 hst2 hop ho3 (p := p) (q := q)).only
     clear hK K
     (try simp only [Act.put, zPA, zPZ, zPS])
     have HG := (ins_leaf q2 hnp hb2 hst2 hop ho3 (p := p) (q := q))
     refine zT 14 ?_
     refine wpAnyH_done (by kernel_rfl) ?_ _
     generalize (d2.setCell ⟨pt, 0, none⟩ (.int .i64 p)).setCell ⟨pt, 1, none⟩ (.int .i64 q) = WF at HG ⊢
     exact KEY _ _ HG
    refine zA ?_ AllReadyH.nil
    intro K hK
    go_simp
    refine hK.out _ _ ?_ (fun hHeld => ?_)
    ·exact HS7.out _ ((q0.alloc _).mono (fun _ _ x => x.elim))
    clear hK K
    (try simp only [Act.put, zPA, zPZ, zPS])
    have qe0 := q0.alloc (.cells #[.int .i64 0, .int .i64 0] 43)
    have hb1 := alloc_new d0 (.cells #[.int .i64 0, .int .i64 0] 43)
    have hnp : wb.heap.size <= d0.heap.size := q0.size
    obtain ⟨pt, hpt⟩ : ∃ pt, d0.heap.size = pt := ⟨_, rfl⟩
    (try rw [hpt] at hb1)
    (try rw [hpt] at hnp)
    (try rw [hpt])
    generalize d0.alloc (.cells #[.int .i64 0, .int .i64 0] 43) = e0 at *
    clear hpt
    refine zR 5 ?_
    intro K hK
    go_simp
    go_at_call 31
    refine (store_nowhere _).mono ?_
    rintro e d1 ⟨rfl, hqn⟩
    have q1 := qe0.trans hqn
    have hbq := hqn.get hb1 (fun x => x)
    clear hb1
    have hb1 := hbq
    clear hbq
    clear hqn
    dsimp only
    refine hK.out _ _ ?_ (fun hHeld => ?_)
    ·exact HS7.out _ (q1.mono (fun _ _ x => x.elim))
    clear hK K
    (try simp only [Act.put, zPA, zPZ, zPS])
    refine zT 7 ?_
    refine zR 8 ?_
    intro K hK
    go_simp
    go_at_call 30
    refine (HPUT.out _ q1).mono ?_
    rintro e d2 ⟨rfl, o2, ho2, hw2, hst2⟩
    have q2 := (q1.mono (T := (fun k => o k ≠ 0)) (fun _ _ x => x.elim)).trans hw2
    have hz2 := q1.size
    have hb2 := hw2.get hb1 (HBG.out _ hnp)
    have hop : o2 pt = 0 := by rw [ho2 pt (lt_of_get hb1)]; exact HBZ.out _ hnp
    have ho3 : ∀ k, k < wb.heap.size -> o2 k = o k := fun k hk => ho2 k (by omega)
    clear ho2 hw2 hz2
    dsimp only
    refine hK.out _ _ ?_ (fun hHeld => ?_)
    ·exact HS7.out _ q2
    clear hK K
    (try simp only [Act.put, zPA, zPZ, zPS])
    have z0 := cell_of hb2 0
    have z1 := cell_of hb2 1
    have zf := fun o => frozen_of hb2 o
    simp only [zGA, zGS, zGZ] at z0 z1
    refine zT 9 ?_
    refine zT 10 ?_
    refine zT 11 ?_
    refine zR 13 ?_
    intro K hK
    go_simp
    refine hK.out _ _ ?_ (fun hHeld => ?_)
    ·exact HS7.out _ (ins_leaf q2 hnp hb2 hst2 hop ho3 (p := p) (q := q)).only
    clear hK K
    (try simp only [Act.put, zPA, zPZ, zPS])
    have HG := (ins_leaf q2 hnp hb2 hst2 hop ho3 (p := p) (q := q))
    refine zT 14 ?_
    refine wpAnyH_done (by kernel_rfl) ?_ _
    generalize (d2.setCell ⟨pt, 0, none⟩ (.int .i64 p)).setCell ⟨pt, 1, none⟩ (.int .i64 q) = WF at HG ⊢
    exact KEY _ _ HG
  case key =>
   intro pt W HL0
   have HL := Lib.hid HL0
   obtain ⟨o', ho', hst, hop⟩ := HL0.st
   have HOW := Lib.hid HL0.only
   obtain ⟨lb, bb, pb, mh, mt, ms, fh, ft, fs, h'⟩ := hst
   obtain ⟨hb, hf, hp⟩ := h'.heaps.2 t.id H1 HS1'.out
   have HR := Lib.hid h'
   have HF := Lib.hid hf
   have HP := Lib.hid hp
   have HOP := Lib.hid hop
   have HO' := Lib.hid ho'
   have h8 : o' r8 = 0 := by rw [ho' r8 (lt_of_get HB8b.out)]; have := HX8.out; omega
   have h12 : o' r12 = 0 := by rw [ho' r12 (lt_of_get HB12b.out)]; have := HX12.out; omega
   have HO8 := Lib.hid (And.intro h8 h12)
   clear HL0 HS7 HPUT hop ho' h' hf hp h8 h12
   have HS13 : Hid (∀ W', Only (fun k => o' k = 10 + 2 * t.id) W W' -> (fun w' => w'.cell? ⟨sb, 3, none⟩ = some (.map (some mh)) /\ w'.cell? ⟨r12, 0, none⟩ = some (.int .u64 (t.id : Int)) /\ w'.cell? ⟨r8, 1, none⟩ = some (.int .i64 pg) /\ w'.cell? ⟨r8, 2, none⟩ = some (.int .i64 sl) /\ w'.cell? ⟨pt, 0, none⟩ = some (.int .i64 p) /\ w'.cell? ⟨pt, 1, none⟩ = some (.int .i64 q) /\ (Instr.lookup 63 (.map (some mh)) (.int .u64 (t.id : Int)) false).run Tryz.prog w' = .ok (ptrV hb) w') W') := fun W' hq => by
    have b12 := tabBox_cells (hq.get (HOW.out.get HB12b.out HX12.out) (fun e => by have := HO8.out.2; (try dsimp only at e); omega))
    have b8 := hq.get (HOW.out.get HB8b.out HX8.out) (fun e => by have := HO8.out.1; (try dsimp only at e); omega)
    have bp := hq.get HL.out.box (fun e => by have := HOP.out; (try dsimp only at e); omega)
    have t1 := HR.out.tags
    have c3 := hq.cell HR.out.cells.2.2.2.1 (fun e => by (try dsimp only at e); omega)
    have hm := HR.out.mH.kept hq (fun e => by (try dsimp only at e); omega)
    exact ⟨c3, b12.1, by rw [cell_of b8]; rfl, by rw [cell_of b8]; rfl, by rw [cell_of bp]; rfl, by rw [cell_of bp]; rfl, look_heap hm HF.out HID.out⟩
   have HSTAMP : Hid (∀ W', Quiet W W' -> Calls Tryz.prog 36 #[ptrV hb, .agg #[.int .i64 pg, .int .i64 sl], .int .u64 (x : Int), .agg #[.int .i64 p, .int .i64 q]] W' (fun e w' => e = .returned (.int .i64 z) /\ Only (fun k => o' k = 10 + 2 * t.id) W' w' /\ HeapIs w' hb pb (fun k => o' k = 10 + 2 * t.id) H2)) := fun W' hq => by
    have := heap_stamp pg sl x p q (HP.out.kept hq (fun _ _ x => x))
    rw [HST.out] at this
    exact this
   go_wp2_with fail
   refine zH HS13 ((Only.refl _ _).drew) (fun hHeld => ?_)
   simp only [List.size_toArray, List.length_cons, List.length_nil, Nat.reduceAdd]
   have q6 : Quiet W W.drew := (Only.refl _ _).drew
   generalize W.drew = d6 at q6 hHeld ⊢
   refine zT 0 ?_
   refine zT 1 ?_
   refine zT 2 ?_
   refine zT 3 ?_
   refine zT 4 ?_
   refine zT 5 ?_
   refine zT 6 ?_
   refine zT 7 ?_
   refine zT 8 ?_
   refine zT 9 ?_
   refine zT 10 ?_
   refine zR 11 ?_
   intro K hK
   go_simp
   go_at_call 36
   refine (HSTAMP.out _ q6).mono ?_
   rintro e d7 ⟨rfl, ho7, hh7⟩
   dsimp only
   refine hK.out _ _ ?_ (fun hHeld => ?_)
   ·exact HS13.out _ ((q6.mono (T := fun k => o' k = 10 + 2 * t.id) (fun _ _ x => x.elim)).trans ho7)
   clear hK K
   (try simp only [Act.put, zPA, zPZ, zPS])
   refine zT 12 ?_
   refine wpAnyH_done (by kernel_rfl) ?_ _
   have HEND : Hid (POST (.returned (.int .i64 z)) d7) := by
    rw [<- HPOST.out]
    unfold UpdPost
    rw [if_pos rfl]
    have ho := (q6.mono (T := fun k => o' k = 10 + 2 * t.id) (fun _ _ x => x.elim)).trans ho7
    have tg := HR.out.tags
    have hpo := (HR.out.pool.kept q6 (fun x => x)).kept ho7 (fun e => by (try dsimp only at e); omega)
    have h9 := HR.out.setHeap (id := t.id) HF.out (ho.mono (fun k _ x => Or.inl x)) hpo (hh7.mono (fun k x => Or.inl x))
    have hsz := HOW.out.size
    have hzz := HQWB.out.size
    have hon : Only (fun k => o k ≠ 0) w d7 := ((HQWB.out.mono (fun _ _ x => x.elim)).trans' HOW.out (fun k _ x => x)).trans' ho (fun k hk x => by
      rw [<- HO'.out k (by omega)]
      omega)
    exact ⟨rfl, _, fun k hk => by rw [grow_old (by omega)]; exact HO'.out k (by omega), hon, lb, bb, pb, mh, mt, ms, fh, ft, fs, h9⟩
   clear hHeld q6 ho7 hh7 HS13 HSTAMP
   go_wp2
   exact HEND.out
 ·have hne : ¬ (code : Int) = 0 := by omega
  have HEND : Hid (POST (.returned (.int .i64 (code : Int))) (w5.alloc (.cells #[.int .u64 v.row, .int .u64 v.xmin, .int .u64 v.xmax, .int .i64 v.pg, .int .i64 v.sl, .slice A6 v.data.length c6] 95))) := by
   rw [<- HPOST.out]
   unfold UpdPost
   rw [if_neg hz]
   have hq := HQ4.out.trans HQB.out
   exact ⟨rfl, o, fun _ _ => rfl, hq.mono (fun _ _ x => x.elim), HH.out.quietly hq⟩
  go_wp2
  exact HEND.out
theorem store_update {w : World} {sb x i c3 n left' nr cr code : Nat} {o : Nat -> Nat} {s : St} {y : Snap} {t : TE} {name nm : ByteArray} {Sv : Nat -> Prop} {A3 Ar : Option Addr} {H H1 H2 : List (List (Option Tup))} {p q pg sl z : Int} {v : Tup} (h : StoreAt w sb o s) (hx : U64 x) (hy : s.sn x = some y) (hf : findT s.L y name s.T = some i) (ht : s.T[i]? = some t) (hc : t.cols = [(nm, 1)]) (hid : U64 t.id)
  (hI : s.I = []) (hH : s.hs t.id = some H) (hle : H.length + s.left <= 256) (hn : n < 256) (hv : Rd w Sv 4 A3 1 (intRow n)) (hc3 : 1 <= c3) (hm3 : c3 <= maxLen) (hg : hGet H pg sl = some v) (hx1 : U64 v.xmin) (hx2 : U64 v.xmax) (hcode : freeS s.L y v.xmin v.xmax = code)
  (hins : code = 0 -> hIns H s.left ⟨v.row, x, 0, -1, -1, rowI n⟩ = ((p, q, 0), H1, left')) (hst : hStamp H1 pg sl x p q = (z, H2)) :
  Calls Tryz.prog 14 #[ptrV sb, .int .u64 (x : Int), .string name, .agg #[.int .u64 v.row, .int .i64 pg, .int .i64 sl, .slice Ar nr cr], .slice A3 1 c3] w (UpdPost w sb o s (putSt s t.id H2 left') code z) := by
 have e1 : ({ putSt s t.id H1 left' with hs := upd (putSt s t.id H1 left').hs t.id (some H2) } : St) = putSt s t.id H2 left' := by
  simp only [putSt, upd_upd]
 rw [<- e1]
 exact store_update_of (s1 := putSt s t.id H1 left') h hx hy hf ht hc hid hH hn hv hc3 hm3 hg hx1 hx2 hcode (by simp [putSt, upd]) hst (fun hz W A2 c2 A5 c5 hq _ _ _ hd _ _ => store_put0 (v := ⟨v.row, x, 0, -1, -1, rowI n⟩) (cd := c5) (A2 := A2) (c2 := c2) (h.quietly hq) hI hid hH hle (rowI_bytes hn) (by show Rd W _ 1 A5 (rowI n).length _; rw [rowI_length]; exact hd) (fun k hk => h.big k hk) (hins hz))
def StoreScanPost (w : World) (R : List RowR) (e : Ending) (w' : World) : Prop :=
 ∃ v M, e = .returned (.tuple #[v, .int .i64 0]) /\ RowsW w w' v M /\ (M.map RowM.told).Perm R /\ M.Pairwise (fun a b => a.id <= b.id)
def IntHeap (H : List (List (Option Tup))) : Prop := ∀ pg sl v, hGet H pg sl = some v -> U64 v.xmin /\ U64 v.xmax /\ ∃ n, n < 256 /\ v.data = rowI n
theorem placesTo_get {p : Int} {T : List (Option Tup)} {k : Nat} {a : Int × Int} (h : a ∈ placesTo p T k) : a.1 = p /\ ∃ j, j < k /\ a.2 = (j : Int) /\ ∃ v, T[j]? = some (some v) := by
 unfold placesTo at h
 obtain ⟨j, hj, e⟩ := List.mem_filterMap.1 h
 split at e
 ·rename_i hs
  injection e with e
  subst e
  obtain ⟨v, hv⟩ := Option.isSome_iff_exists.1 hs
  refine ⟨rfl, j, List.mem_range.1 hj, rfl, v, ?_⟩
  cases hT : T[j]? with
  | none => rw [hT] at hv; cases hv
  | some u => rw [hT] at hv; cases u with
   | none => cases hv
   | some u => simpa using hv
 ·cases e
theorem placesH_get {H : List (List (Option Tup))} {a : Int × Int} {k : Nat} (h : a ∈ placesH H k) : ∃ v, hGet H a.1 a.2 = some v := by
 induction k with
 | zero => cases h
 | succ k ih =>
  rcases List.mem_append.1 h with h | h
  ·exact ih h
  ·obtain ⟨h1, j, _, h2, v, h3⟩ := placesTo_get h
   refine ⟨v, ?_⟩
   unfold hGet
   rw [h1, if_neg (by omega), h2]
   unfold tupAt
   rw [if_neg (by omega)]
   show ((H.getD k [])[((j : Nat) : Int).toNat]?).join = some v
   rw [Int.toNat_natCast, h3]
   rfl
set_option maxHeartbeats 4000000 in
theorem store_scan {w : World} {sb x i : Nat} {o : Nat -> Nat} {s : St} {y : Snap} {t : TE} {name nm : ByteArray} {H : List (List (Option Tup))} (h : StoreAt w sb o s) (hx : U64 x) (hy : s.sn x = some y) (hf : findT s.L y name s.T = some i) (ht : s.T[i]? = some t) (hc : t.cols = [(nm, 1)]) (hid : U64 t.id)
  (hH : s.hs t.id = some H) (hN : ∀ k, k <= H.length -> (placesH H k).length <= 1000000) (hI : IntHeap H) :
  Calls Tryz.prog 13 #[ptrV sb, .int .u64 (x : Int), .string name] w (StoreScanPost w (seenR H s.L y (placesH H H.length))) := by
 have HO := Lib.hid (store_open h hx hy hf ht)
 have HH := Lib.hid h
 have HC := Lib.hid hc
 have HID := Lib.hid hid
 have HHH := Lib.hid (And.intro hH (And.intro hN hI))
 obtain ⟨POST, hPOST⟩ : ∃ POST, StoreScanPost w (seenR H s.L y (placesH H H.length)) = POST := ⟨_, rfl⟩
 rw [hPOST]
 have HPOST := Lib.hid hPOST
 clear h hx hy hf ht hc hid hH hN hI hPOST
 go_enter Tryz.func13, Tryz.ntmps13
 go_wp2_with fail
 refine HO.out.mono ?_
 rintro e w1 ⟨A, c, A2, c2, rfl, hq1, hs1, hf1, hc2, hm2⟩
 clear HO
 have HQ1 := Lib.hid hq1
 have HF1 := Lib.hid hf1
 have HS1 := Lib.hid hs1
 have HC2 := Lib.hid (And.intro hc2 hm2)
 have q2 : Quiet w1 ((w1.alloc (.cells (snapCells y A c) 73)).alloc (.cells #[.int .u64 (t.id : Int), .string t.name, .slice A2 t.cols.length c2, .int .u64 (t.xmin : Int), .int .u64 (t.xmax : Int)] 83)) := ((Only.refl _ _).alloc _).alloc _
 have b9 := two_new w1 (.cells (snapCells y A c) 73) (.cells #[.int .u64 (t.id : Int), .string t.name, .slice A2 t.cols.length c2, .int .u64 (t.xmin : Int), .int .u64 (t.xmax : Int)] 83)
 have b8 := alloc_old (alloc_new w1 (.cells (snapCells y A c) 73)) (.cells #[.int .u64 (t.id : Int), .string t.name, .slice A2 t.cols.length c2, .int .u64 (t.xmin : Int), .int .u64 (t.xmax : Int)] 83)
 have HQ2 := Lib.hid q2
 have HB9 := Lib.hid b9
 have HB8 := Lib.hid b8
 obtain ⟨r8, hr8⟩ : ∃ r8, w1.heap.size = r8 := ⟨_, rfl⟩
 obtain ⟨r9, hr9⟩ : ∃ r9, r8 + 1 = r9 := ⟨_, rfl⟩
 rw [hr8] at HB9 HB8
 rw [hr9] at HB9
 have HE8 := Lib.hid hr8
 have HE9 := Lib.hid hr9
 clear hq1 hs1 hf1 hc2 hm2 q2 b9 b8 hr8 hr9
 unfold snapV tabV
 go_wp2_with fail
 (try simp only [World.size_alloc])
 rw [HE8.out, HE9.out]
 generalize (w1.alloc (.cells #[.int .u64 (y.own : Int), .int .u64 (y.xmin : Int), .int .u64 (y.xmax : Int), .slice A y.run.length c] 73)).alloc (.cells #[.int .u64 (t.id : Int), .string t.name, .slice A2 t.cols.length c2, .int .u64 (t.xmin : Int), .int .u64 (t.xmax : Int)] 83) = w2 at *
 have HQW : Hid (Quiet w w2) := HQ1.out.trans HQ2.out
 have HHW := Lib.hid (HH.out.quietly HQW.out)
 have HS4 : Hid (∀ W, Quiet w2 W -> (fun w' => w'.cell? ⟨r8, 0, none⟩ = some (.int .u64 (y.own : Int)) /\ w'.cell? ⟨r8, 1, none⟩ = some (.int .u64 (y.xmin : Int)) /\ w'.cell? ⟨r8, 2, none⟩ = some (.int .u64 (y.xmax : Int)) /\ w'.cell? ⟨r8, 3, none⟩ = some (.slice A y.run.length c) /\ w'.cell? ⟨r9, 0, none⟩ = some (.int .u64 (t.id : Int)) /\ w'.cell? ⟨r9, 1, none⟩ = some (.string t.name) /\ w'.cell? ⟨r9, 2, none⟩ = some (.slice A2 t.cols.length c2) /\ w'.cell? ⟨r9, 3, none⟩ = some (.int .u64 (t.xmin : Int)) /\ w'.cell? ⟨r9, 4, none⟩ = some (.int .u64 (t.xmax : Int))) W) := fun W hq => by
  have b9 := tabBox_cells (hq.get HB9.out (fun x => x))
  have b8 := snapBox_cells (hq.get HB8.out (fun x => x))
  exact ⟨b8.1, b8.2.1, b8.2.2.1, b8.2.2.2, b9⟩
 have HPL : Hid (∀ W, Quiet w2 W -> Calls Tryz.prog 34 #[ptrV sb, .int .u64 (t.id : Int)] W (ChainPost W (placesH H H.length))) := fun W hq => store_places (HHW.out.quietly hq) HID.out HHH.out.1 HHH.out.2.1
 have HRW : Hid (∀ W, Quiet w2 W -> ∀ A3 c3 (Sl : Nat -> Prop), Rd W Sl 2 A3 (placesH H H.length).length (tidsV (placesH H H.length)) -> Calls Tryz.prog 33 #[ptrV sb, snapV y A c, tabV t A2 c2, .slice A3 (placesH H H.length).length c3] W (RowsPost W (seenR H s.L y (placesH H H.length)))) := fun W hq A3 c3 Sl hr => by
  obtain ⟨A', c', e', h1, h2, h3⟩ := own_form HF1.out.own
  injection e' with e1 _ e2
  subst e1 e2
  exact store_rows (HHW.out.quietly hq) ((HS1.out.kept HQ2.out (fun _ _ x => x)).kept hq (fun _ _ x => x)) HC.out HID.out ((h3.kept HQ2.out (fun _ _ x => x)).kept hq (fun _ _ x => x)) HC2.out.1 HC2.out.2 HHH.out.1 hr (HHH.out.2.1 _ (Nat.le_refl _)) (fun a ha => by
    obtain ⟨v, hv⟩ := placesH_get ha
    obtain ⟨i1, i2, i3⟩ := HHH.out.2.2 _ _ _ hv
    exact ⟨v, hv, i1, i2, fun _ => i3⟩)
 unfold snapV tabV at HRW
 refine zH HS4 ((Only.refl _ _).drew) (fun hHeld => ?_)
 simp only [List.size_toArray, List.length_cons, List.length_nil, Nat.reduceAdd]
 have q0 : Quiet w2 w2.drew := (Only.refl _ _).drew
 generalize w2.drew = d0 at q0 hHeld ⊢
 refine zT 0 ?_
 refine zT 1 ?_
 refine zT 2 ?_
 refine zT 3 ?_
 refine zT 4 ?_
 refine zT 5 ?_
 refine zR 6 ?_
 intro K hK
 go_simp
 go_at_call 34
 refine (HPL.out _ q0).mono ?_
 rintro e d1 ⟨v3, rfl, hq3, _, ht3⟩
 obtain ⟨A3, c3, rfl, hc3, hm3, hrd3⟩ := own_form ht3
 have q1 := q0.trans hq3
 clear hq3 ht3
 dsimp only
 refine hK.out _ _ ?_ (fun hHeld => ?_)
 ·exact HS4.out _ q1
 clear hK K
 (try simp only [Act.put, zPA, zPZ, zPS])
 refine zR 7 ?_
 intro K hK
 go_simp
 go_at_call 33
 refine (HRW.out _ q1 A3 c3 _ hrd3).mono ?_
 rintro e d2 ⟨v4, M, rfl, hrw, hpm, hpw⟩
 have q2 := q1.trans hrw.quiet
 dsimp only
 refine hK.out _ _ ?_ (fun hHeld => ?_)
 ·exact HS4.out _ q2
 clear hK K
 (try simp only [Act.put, zPA, zPZ, zPS])
 refine zT 8 ?_
 refine zT 9 ?_
 refine wpAnyH_done (by kernel_rfl) ?_ _
 have HEND : Hid (POST (.returned (.tuple #[v4, .int .i64 0])) d2) := by
  rw [<- HPOST.out]
  exact ⟨v4, M, rfl, hrw.from (HQW.out.trans q1), hpm, hpw⟩
 clear hHeld q0 q1 q2 hrw hpm hpw HS4 HPL HRW hrd3 hc3 hm3
 go_wp2
 exact HEND.out
structure StampAt (H H' : List (List (Option Tup))) (pg sl : Int) (v u : Tup) : Prop where
 get : ∀ p s, hGet H' p s = if p = pg /\ s = sl then some u else hGet H p s
 used : usedH H' = usedH H
 fit : ∀ T ∈ H', Fits T
 len : H'.length = H.length
theorem stamp_size (v : Tup) (x : Nat) (p q : Int) : (v.stamp x p q).size = v.size := rfl
theorem hStamp_goes {H : List (List (Option Tup))} {pg sl p q : Int} {x : Nat} {v : Tup} (hfit : ∀ T ∈ H, Fits T) (h : hGet H pg sl = some v) (hx : x <= 1099511627776) (hf : farB p q = false) : ∃ H', hStamp H pg sl x p q = (0, H') /\ StampAt H H' pg sl v (v.stamp x p q) := by
 have h0 : ¬ (pg < 0 ∨ (H.length : Int) <= pg) := fun x => by rw [hGet_out x] at h; cases h
 obtain ⟨k, rfl⟩ := Int.eq_ofNat_of_zero_le (show 0 <= pg by omega)
 have hk : k < H.length := by omega
 obtain ⟨T, hT⟩ : ∃ T, H[k]? = some T := ⟨_, List.getElem?_eq_getElem hk⟩
 have hg : tupAt T sl = some v := by rw [<- hGet_in sl hT]; exact h
 obtain ⟨s0, hs⟩ := tupAt_some hg
 obtain ⟨j, rfl⟩ := Int.eq_ofNat_of_zero_le s0
 rw [Int.toNat_natCast] at hs
 have hj : j < T.length := (List.getElem?_eq_some_iff.1 hs).1
 have hgd : H.getD k [] = T := by rw [List.getD_eq_getElem?_getD, hT]; rfl
 have hp : pStampT T (j : Int) x p q = (0, T.set j (some (v.stamp x p q))) := by
  unfold pStampT
  rw [if_neg (by rw [hf]; simp; omega), hg]
  rfl
 refine ⟨H.set k (T.set j (some (v.stamp x p q))), ?_, ⟨fun a b => ?_, ?_, fun T' hT' => ?_, by simp⟩⟩
 ·unfold hStamp
  rw [if_neg h0, Int.toNat_natCast, hgd, hp]
 ·rw [hGet_set H k hk]
  by_cases e : a = (k : Int)
  ·subst e
   rw [if_pos rfl, tupAt_set T j hj]
   by_cases e2 : b = (j : Int)
   ·rw [if_pos e2, if_pos ⟨rfl, e2⟩]
   ·rw [if_neg e2, if_neg (fun z => e2 z.2), hGet_in b hT]
  ·rw [if_neg e, if_neg (fun z => e z.1)]
 ·have h1 := usedH_set (T' := T.set j (some (v.stamp x p q))) hT
  have h2 := used_set (u := some (v.stamp x p q)) hs
  simp at h2
  omega
 ·rcases List.mem_or_eq_of_mem_set hT' with y | y
  ·exact hfit T' y
  ·rw [y]
   have := hfit T (List.mem_of_getElem? hT)
   unfold Fits at this ⊢
   have h3 := sum_set sizeT T j (some v) (some (v.stamp x p q)) hs
   have e : sizeT (some (v.stamp x p q)) = sizeT (some v) := rfl
   rw [List.length_set]
   omega
theorem placesTo_used (p : Int) (T : List (Option Tup)) : (placesTo p T T.length).length = usedT T := by
 have h : ∀ (n : Nat), n <= T.length -> (placesTo p T n).length = usedT (T.take n) := by
  intro n
  induction n with
  | zero => intro _; rfl
  | succ n ih =>
   intro hn
   obtain ⟨s, hs⟩ : ∃ s, T[n]? = some s := ⟨_, List.getElem?_eq_getElem (by omega)⟩
   have hi := ih (by omega)
   have ht : T.take (n + 1) = T.take n ++ [s] := by rw [List.take_add_one, hs]; rfl
   rw [ht, used_append]
   cases s with
   | none => rw [placesTo_none (by rw [hs]; rfl), hi]; rfl
   | some t => rw [placesTo_some (t := t) (by rw [hs]; rfl), List.length_append, hi]; rfl
 rw [h T.length (Nat.le_refl _), List.take_length]
theorem placesH_length (H : List (List (Option Tup))) : ∀ k, k <= H.length -> (placesH H k).length = usedH (H.take k) := by
 intro k
 induction k with
 | zero => intro _; rfl
 | succ k ih =>
  intro hk
  obtain ⟨T, hT⟩ : ∃ T, H[k]? = some T := ⟨_, List.getElem?_eq_getElem (by omega)⟩
  show (placesH H k ++ placesTo (k : Int) (H.getD k []) (H.getD k []).length).length = _
  have hg : H.getD k [] = T := by rw [List.getD_eq_getElem?_getD, hT]; rfl
  rw [List.length_append, hg, placesTo_used, ih (by omega), usedH_take hT]
theorem placesTo_nodup (p : Int) (T : List (Option Tup)) (n : Nat) : (placesTo p T n).Nodup := by
 unfold placesTo
 refine List.Pairwise.filterMap _ (fun a a' hne b hb b' hb' e => ?_) List.nodup_range
 simp at hb hb'
 subst e
 have := hb.2.trans hb'.2.symm
 simp at this
 omega
theorem placesH_nodup (H : List (List (Option Tup))) (k : Nat) : (placesH H k).Nodup := by
 induction k with
 | zero => exact List.nodup_nil
 | succ k ih =>
  show (placesH H k ++ placesTo (k : Int) (H.getD k []) (H.getD k []).length).Nodup
  rw [List.nodup_append]
  refine ⟨ih, placesTo_nodup _ _ _, fun a ha b hb e => ?_⟩
  subst e
  obtain ⟨h1, _⟩ := placesTo_get hb
  have : ∀ j, j <= k -> ∀ x ∈ placesH H j, x.1 < (j : Int) := by
   intro j
   induction j with
   | zero => intro _ x hx; cases hx
   | succ j ihj =>
    intro hj x hx
    rcases List.mem_append.1 hx with y | y
    ·have := ihj (by omega) x y; omega
    ·obtain ⟨h, _⟩ := placesTo_get y; omega
  have := this k (Nat.le_refl _) a ha
  omega
def makeSt (s : St) (name nm : ByteArray) (kd own : Nat) : St := { s with T := [⟨s.blast + 1, name, [(nm, kd)], own, 0⟩], I := [], blast := s.blast + 1, hs := upd s.hs (s.blast + 1) (some []) }
def StoreMakePost (w : World) (sb : Nat) (o : Nat -> Nat) (s' : St) (e : Ending) (w' : World) : Prop := e = .returned (.int .i64 0) /\ StepTo w sb o s' w'
theorem storeMake_done {w w2 w3 w5 w6 : World} {sb lb bb pb mh mt ms hb kd own : Nat} {o : Nat -> Nat} {s : St} {fh ft fs : Nat -> Option Value} {name nm : ByteArray} (h : StoreRow w sb o s lb bb pb mh mt ms fh ft fs) (_hT : s.T = []) (_hI : s.I = []) (hid : s.hs (s.blast + 1) = none) (hq2 : Quiet w w2)
  (ho3 : Only (fun k => o k = 3) w2 w3) (hb3 : BookIs w3 (fun k => o k = 3 ∨ w2.heap.size <= k) bb [⟨s.blast + 1, name, [(nm, kd)], own, 0⟩] [] (s.blast + 1)) (hq5 : Quiet w3 w5) (hh5 : HeapIs w5 hb pb (fun k => w3.heap.size <= k) [])
  (ho6 : Only (fun k => k = mh) w5 w6) (hm : MapF w6 mh (upd fh (s.blast + 1) (some (ptrV hb)))) : StepTo w sb o (makeSt s name nm kd own) w6 := by
 have h2 := h.quietly hq2
 have h3 := h2.setBook ho3 hb3
 have hbig := h3.big
 have h5 := h3.quietly hq5
 have tm : grow o w2.heap.size w3.heap.size 3 mh = 6 := h3.tags.2.2.1
 have hnm : ¬ w3.heap.size <= mh := fun x => by have := hbig mh x; omega
 have h6 := h5.newHeap (B := w3.heap.size) (id := s.blast + 1) (hb := hb) (H' := []) hbig hq5.size hid ho6 hm (hh5.kept ho6 (fun k hk e => by omega))
 have s1 := ho3.size
 have s2 := hq5.size
 have s0 := hq2.size
 have e6 : o mh = 6 := h.tags.2.2.1
 refine ⟨_, fun k hk => ?_, (((hq2.mono (T := fun k => o k ≠ 0) (fun _ _ x => x.elim)).trans' ho3 (fun k _ e => by omega)).trans' hq5 (fun k _ e => e.elim)).trans' ho6 (fun k _ e => by rw [e, e6]; omega), _, _, _, _, _, _, _, _, _, h6⟩
 rw [grow_old (by omega), grow_old (by omega)]
set_option maxHeartbeats 4000000 in
theorem store_make {w : World} {sb x kd c2 : Nat} {o : Nat -> Nat} {s : St} {y : Snap} {name nm : ByteArray} {S2 : Nat -> Prop} {A2 : Option Addr} (h : StoreAt w sb o s) (hx : U64 x) (hy : s.sn x = some y) (hT : s.T = []) (hI : s.I = []) (hid : s.hs (s.blast + 1) = none) (hl : s.blast < 1000000) (hu : U64 y.own)
  (hnm : Small name) (hcn : Small nm) (hk : 1 <= kd /\ kd <= 3) (hr : Rd w S2 2 A2 1 (colsV [(nm, kd)])) (hS : ∀ k, S2 k -> o k ≠ 3) (hc2 : 1 <= c2) (hm2 : c2 <= maxLen) :
  Calls Tryz.prog 8 #[ptrV sb, .int .u64 (x : Int), .string name, .slice A2 1 c2] w (StoreMakePost w sb o (makeSt s name nm kd y.own)) := by
 have HRU := Lib.hid (store_runs h hx)
 obtain ⟨lb, bb, pb, mh, mt, ms, fh, ft, fs, h⟩ := h
 have HH := Lib.hid h
 have HR := Lib.hid hr
 unfold RunsPost at HRU
 rw [hy] at HRU
 clear hr
 go_enter Tryz.func8, Tryz.ntmps8
 go_wp2_with fail
 refine HRU.out.mono ?_
 rintro e w1 ⟨hq1, A, c, rfl, hs1⟩
 clear HRU
 have hq2 : Quiet w (w1.alloc (.cells (snapCells y A c) 73)) := hq1.alloc _
 have hpb := alloc_new w1 (.cells (snapCells y A c) 73)
 have hs2 := hs1.kept ((Only.refl (fun _ => False) w1).alloc (.cells (snapCells y A c) 73)) (fun _ _ x => x)
 have hz1 := hq1.size
 obtain ⟨pv, hpv⟩ : ∃ pv, w1.heap.size = pv := ⟨_, rfl⟩
 unfold snapV
 go_wp2_with fail
 rw [hpv] at hpb hz1
 have hpo : o pv = 0 := h.big pv hz1
 obtain ⟨t1, t2, t3, t4, t5⟩ := h.tags
 generalize w1.alloc (.cells (snapCells y A c) 73) = w2 at *
 obtain ⟨c0, c1, q2, q3, _, _, _⟩ := (h.quietly hq2).cells
 obtain ⟨p0, p1, p2, p3⟩ : w2.cell? ⟨pv, 0, none⟩ = some (.int .u64 (y.own : Int)) /\ w2.cell? ⟨pv, 1, none⟩ = some (.int .u64 (y.xmin : Int)) /\ w2.cell? ⟨pv, 2, none⟩ = some (.int .u64 (y.xmax : Int)) /\ w2.cell? ⟨pv, 3, none⟩ = some (.slice A y.run.length c) :=
  ⟨by rw [cell_of hpb]; rfl, by rw [cell_of hpb]; rfl, by rw [cell_of hpb]; rfl, by rw [cell_of hpb]; rfl⟩
 have hs3 : ¬ o sb = 3 := by omega
 have hp3 : ¬ o pv = 3 := by omega
 have HBK : Hid (Calls Tryz.prog 25 #[ptrV bb, ptrV lb, snapV y A c, .string name, .slice A2 1 c2] w2.drew (FirstPost w2.drew (fun k => o k = 3) bb s.blast ⟨s.blast + 1, name, [(nm, kd)], y.own, 0⟩)) := by
  have hbk := (h.quietly hq2).book
  rw [hT, hI] at hbk
  exact book_first (S := fun _ => False) (hbk.kept ((Only.refl (fun _ => False) w2).drew) (fun _ _ x => x)) hl hnm hcn hk hu (HR.out.kept hq2.drew (fun _ _ x => x)) hS hc2 hm2
 have HQ2 := Lib.hid hq2
 have lsb := cell_lt c0
 have lpv := cell_lt p0
 dsimp only at lsb lpv
 unfold snapV at HBK
 clear hq1 hs1 hs2 hpb hz1 hpo hq2 HR h t1 t2 t3 t4 t5
 refine wp_region_held_drew (S := fun w' => w'.cell? ⟨sb, 1, none⟩ = some (ptrV bb) /\ w'.cell? ⟨sb, 0, none⟩ = some (ptrV lb) /\ w'.cell? ⟨pv, 0, none⟩ = some (.int .u64 (y.own : Int)) /\ w'.cell? ⟨pv, 1, none⟩ = some (.int .u64 (y.xmin : Int)) /\ w'.cell? ⟨pv, 2, none⟩ = some (.int .u64 (y.xmax : Int)) /\ w'.cell? ⟨pv, 3, none⟩ = some (.slice A y.run.length c)) (by kernel_rfl) (⟨c1, c0, p0, p1, p2, p3⟩) (fun hHeld => ?_)
 simp only [List.size_toArray, List.length_cons, List.length_nil, Nat.reduceAdd]
 refine zT 0 ?_
 refine zT 1 ?_
 refine zT 2 ?_
 refine zT 3 ?_
 refine zT 4 ?_
 refine zT 5 ?_
 refine zT 6 ?_
 refine zT 7 ?_
 refine zT 8 ?_
 refine zT 9 ?_
 refine zT 10 ?_
 refine zR 11 ?_
 intro K hK
 go_simp
 go_at_call 25
 refine (HBK.out).mono ?_
 rintro e w3 ⟨rfl, ho3, hb3⟩
 dsimp only
 refine hK.out _ _ ?_ (fun hHeld => ?_)
 ·exact ⟨ho3.cell hHeld.1 hs3, ho3.cell hHeld.2.1 hs3, ho3.cell hHeld.2.2.1 hp3, ho3.cell hHeld.2.2.2.1 hp3, ho3.cell hHeld.2.2.2.2.1 hp3, ho3.cell hHeld.2.2.2.2.2 hp3⟩
 clear hK K
 (try simp only [Act.put, zPA, zPZ, zPS])
 refine zT 12 ?_
 refine zT 13 ?_
 refine zT 14 ?_
 refine zT 15 ?_
 refine zT 16 ?_
 refine wpAnyH_done (by kernel_rfl) ?_ _
 have HO3 : Hid (Only (fun k => o k = 3) w2 w3) := ((Only.refl _ w2).drew).trans ho3
 have HB3 := Lib.hid hb3
 have d3 := HO3.out.cell q3 hs3
 have d2 := HO3.out.cell q2 hs3
 have HMH : Hid (MapF w3 mh fh) := ((HH.out.mH.kept HQ2.out (fun x => x)).kept HO3.out (by have := HH.out.tags.2.2.1; omega))
 have HX : Hid (U64 (s.blast + 1)) := by unfold Hid U64; omega
 have en : ((s.blast : Int) + 1) = ((s.blast + 1 : Nat) : Int) := by omega
 have lsb3 := cell_lt d3
 dsimp only at lsb3
 rw [en]
 clear ho3 hb3 hHeld c0 c1 p0 p1 p2 p3 q2 q3 HBK lsb lpv en
 go_wp2_with fail
 refine wp_region_last (S := fun w' => w'.cell? ⟨sb, 3, none⟩ = some (.map (some mh)) /\ w'.cell? ⟨sb, 2, none⟩ = some (ptrV pb) /\ Quiet w3 w') (by kernel_rfl) (by kernel_rfl) (by simp) (⟨d3, d2, (Only.refl _ _).drew⟩) (fun hHeld => ?_)
 simp only [List.pop_toArray, List.dropLast, List.size_toArray, List.length_cons, List.length_nil, Nat.reduceAdd, Nat.reduceSub]
 refine zT 0 ?_
 refine zT 1 ?_
 refine zT 2 ?_
 refine zT 3 ?_
 refine zT 4 ?_
 refine zT 5 ?_
 refine zT 6 ?_
 refine zT 7 ?_
 refine zT 8 ?_
 refine wpAnyH_ready (rs := [9]) (by kernel_rfl) (by simp) ?_
 refine zA ?_ ?_
 ·intro K hK
  go_simp
  go_at_call 26
  refine (heap_new pb _).mono ?_
  rintro e w5 ⟨hb, rfl, hq5, hh5⟩
  dsimp only
  refine hK.out _ _ ?_ (fun hHeld => ?_)
  ·exact ⟨hq5.cell hHeld.1 (fun x => x), hq5.cell hHeld.2.1 (fun x => x), hHeld.2.2.trans hq5⟩
  clear hK K
  (try simp only [Act.put, zPA, zPZ, zPS])
  refine wpAnyH_done (by kernel_rfl) ?_ _
  refine last_step (o := ?_) ?_ ?_
  rotate_left 1
  (focus (simp only [zGA, zGZ, zGS] <;> rfl))
  intro K hK
  refine wp_put (.tmp 41) (.tmp 42) (.tmp 47) rfl (HMH.out.kept hHeld.2.2 (fun x => x)) Tryz.underlying63 Tryz.underlying29 rfl rfl rfl HX.out ?_
  intro w6 hm6 ho6
  refine hK.out _ _ ?_
  clear hK K
  have hm7 : MapF w6 mh (upd fh (s.blast + 1) (some (ptrV hb))) := hm6
  have HD : Hid (StepTo w sb o (makeSt s name nm kd y.own) w6) := storeMake_done HH.out hT hI hid HQ2.out HO3.out HB3.out hHeld.2.2 hh5 ho6 hm7
  clear hm6 hm7 ho6 hHeld hh5 hq5 HH HMH HQ2 HO3 HB3
  dsimp only [Act.put]
  go_wp2
  go_ret
  exact ⟨rfl, HD.out⟩
 exact AllReadyH.nil
def LawSt (w0 w : World) (sb : Nat) (K : Nat -> Prop) (s : St) : Prop := ∃ o, StoreAt w sb o s /\ Quiet w0 w /\ (∀ k, k < w0.heap.size -> o k = 0) /\ ∀ k, K k -> o k = 0 /\ k < w.heap.size
def LawTo (w0 w : World) (sb : Nat) (K : Nat -> Prop) (s' : St) (w' : World) : Prop := LawSt w0 w' sb K s' /\ Only (fun k => w0.heap.size <= k /\ ¬ K k) w w'
section
variable {w0 w w' w1 : World} {sb : Nat} {K K' : Nat -> Prop} {s s' : St} {o : Nat -> Nat}
theorem LawSt.quietly (h : LawSt w0 w sb K s) (hq : Quiet w w1) : LawSt w0 w1 sb (fun k => K k ∨ (w.heap.size <= k /\ k < w1.heap.size)) s := by
 obtain ⟨o, h1, h2, h3, h4⟩ := h
 refine ⟨o, h1.quietly hq, h2.trans hq, h3, fun k hk => ?_⟩
 rcases hk with x | x
 ·exact ⟨(h4 k x).1, Nat.lt_of_lt_of_le (h4 k x).2 hq.size⟩
 ·exact ⟨h1.big k x.1, x.2⟩
theorem LawSt.mono (h : LawSt w0 w sb K s) (hk : ∀ k, K' k -> K k) : LawSt w0 w sb K' s := by
 obtain ⟨o, h1, h2, h3, h4⟩ := h
 exact ⟨o, h1, h2, h3, fun k x => h4 k (hk k x)⟩
theorem LawSt.same (h : LawSt w0 w sb K s) (hq : Quiet w w1) : LawSt w0 w1 sb K s := (h.quietly hq).mono (fun _ x => Or.inl x)
theorem LawSt.quiet (h : LawSt w0 w sb K s) : Quiet w0 w := by
 obtain ⟨o, h1, h2, h3, h4⟩ := h
 exact h2
theorem LawSt.lt (h : LawSt w0 w sb K s) {k : Nat} (hk : K k) : k < w.heap.size := by
 obtain ⟨o, h1, h2, h3, h4⟩ := h
 exact (h4 k hk).2
theorem law_step (h1 : StoreAt w sb o s) (h2 : Quiet w0 w) (h3 : ∀ k, k < w0.heap.size -> o k = 0) (h4 : ∀ k, K k -> o k = 0 /\ k < w.heap.size) (hst : StepTo w sb o s' w') : LawTo w0 w sb K s' w' := by
 obtain ⟨o', a, b, c⟩ := hst
 have hs := h2.size
 refine ⟨⟨o', c, h2.trans' b (fun k hk x => x (h3 k hk)), fun k hk => by rw [a k (by omega)]; exact h3 k hk, fun k x => ?_⟩, b.mono (fun k hk x => ?_)⟩
 ·obtain ⟨y1, y2⟩ := h4 k x
  exact ⟨by rw [a k y2]; exact y1, Nat.lt_of_lt_of_le y2 b.size⟩
 ·refine ⟨?_, fun y => x (h4 k y).1⟩
  rcases Nat.lt_or_ge k w0.heap.size with y | y
  ·exact absurd (h3 k y) x
  ·exact y
theorem LawTo.st (h : LawTo w0 w sb K s' w') : LawSt w0 w' sb K s' := h.1
theorem law_new (n : Nat) (hn : n <= 256) (w : World) :
  Calls Tryz.prog 5 #[.int .i64 (n : Int)] w fun e w' => ∃ sb, e = .returned (.tuple #[ptrV sb, .int .i64 0]) /\ LawSt w w' sb (fun _ => False) (st0 n) := by
 refine (store_new n hn w).mono ?_
 rintro e w' ⟨sb, o, rfl, hq, h0, hst⟩
 exact ⟨sb, rfl, o, hst, hq, h0, fun _ x => x.elim⟩
theorem law_begin (h : LawSt w0 w sb K s) (hl : s.L.length < 1000000) :
  Calls Tryz.prog 7 #[ptrV sb] w fun e w' => e = .returned (.tuple #[.int .u64 ((s.L.length : Int) + 1), .int .i64 0]) /\ LawTo w0 w sb K (begSt s) w' := by
 obtain ⟨o, h1, h2, h3, h4⟩ := h
 refine (store_begin h1 hl).mono ?_
 rintro e w' ⟨rfl, hst⟩
 exact ⟨rfl, law_step h1 h2 h3 h4 hst⟩
theorem law_commit {x : Nat} (h : LawSt w0 w sb K s) (hx : U64 x) :
  Calls Tryz.prog 12 #[ptrV sb, .int .u64 (x : Int)] w fun e w' => e = .returned (.int .i64 ((endL s.L x 2).1 : Int)) /\ LawTo w0 w sb K (endSt s x 2) w' := by
 obtain ⟨o, h1, h2, h3, h4⟩ := h
 refine (store_commit h1 hx).mono ?_
 rintro e w' ⟨rfl, hst⟩
 exact ⟨rfl, law_step h1 h2 h3 h4 hst⟩
theorem law_make {x kd c2 : Nat} {y : Snap} {name nm : ByteArray} {A2 : Option Addr} (h : LawSt w0 w sb K s) (hx : U64 x) (hy : s.sn x = some y) (hT : s.T = []) (hI : s.I = []) (hid : s.hs (s.blast + 1) = none) (hl : s.blast < 1000000) (hu : U64 y.own)
  (hnm : Small name) (hcn : Small nm) (hk : 1 <= kd /\ kd <= 3) (hr : Rd w K 2 A2 1 (colsV [(nm, kd)])) (hc2 : 1 <= c2) (hm2 : c2 <= maxLen) :
  Calls Tryz.prog 8 #[ptrV sb, .int .u64 (x : Int), .string name, .slice A2 1 c2] w fun e w' => e = .returned (.int .i64 0) /\ LawTo w0 w sb K (makeSt s name nm kd y.own) w' := by
 obtain ⟨o, h1, h2, h3, h4⟩ := h
 refine (store_make h1 hx hy hT hI hid hl hu hnm hcn hk hr (fun k hk => by have := (h4 k hk).1; omega) hc2 hm2).mono ?_
 rintro e w' ⟨rfl, hst⟩
 exact ⟨rfl, law_step h1 h2 h3 h4 hst⟩
theorem law_insert {x i c3 n left' : Nat} {y : Snap} {t : TE} {name nm : ByteArray} {Sv : Nat -> Prop} {A3 : Option Addr} {H H' : List (List (Option Tup))} {p q : Int} (h : LawSt w0 w sb K s) (hx : U64 x) (hy : s.sn x = some y) (hf : findT s.L y name s.T = some i) (ht : s.T[i]? = some t) (hc : t.cols = [(nm, 1)]) (hid : U64 t.id)
  (hI : s.I = []) (hH : s.hs t.id = some H) (hle : H.length + s.left <= 256) (hn : n < 256) (hv : Rd w Sv 4 A3 1 (intRow n)) (hc3 : 1 <= c3) (hm3 : c3 <= maxLen) (hlast : s.last + 1 < 18446744073709551616) (hins : hIns H s.left ⟨s.last + 1, x, 0, -1, -1, rowI n⟩ = ((p, q, 0), H', left')) :
  Calls Tryz.prog 10 #[ptrV sb, .int .u64 (x : Int), .string name, .slice A3 1 c3] w fun e w' => e = .returned (.int .i64 0) /\ LawTo w0 w sb K (insSt s t.id H' left') w' := by
 obtain ⟨o, h1, h2, h3, h4⟩ := h
 refine (store_insert h1 hx hy hf ht hc hid hI hH hle hn hv hc3 hm3 hlast hins).mono ?_
 rintro e w' ⟨rfl, hst⟩
 exact ⟨rfl, law_step h1 h2 h3 h4 hst⟩
theorem law_update {x i c3 n left' nr cr code : Nat} {y : Snap} {t : TE} {name nm : ByteArray} {Sv : Nat -> Prop} {A3 Ar : Option Addr} {H H1 H2 : List (List (Option Tup))} {p q pg sl z : Int} {v : Tup} (h : LawSt w0 w sb K s) (hx : U64 x) (hy : s.sn x = some y) (hf : findT s.L y name s.T = some i) (ht : s.T[i]? = some t) (hc : t.cols = [(nm, 1)]) (hid : U64 t.id)
  (hI : s.I = []) (hH : s.hs t.id = some H) (hle : H.length + s.left <= 256) (hn : n < 256) (hv : Rd w Sv 4 A3 1 (intRow n)) (hc3 : 1 <= c3) (hm3 : c3 <= maxLen) (hg : hGet H pg sl = some v) (hx1 : U64 v.xmin) (hx2 : U64 v.xmax) (hcode : freeS s.L y v.xmin v.xmax = code)
  (hins : code = 0 -> hIns H s.left ⟨v.row, x, 0, -1, -1, rowI n⟩ = ((p, q, 0), H1, left')) (hst : hStamp H1 pg sl x p q = (z, H2)) :
  Calls Tryz.prog 14 #[ptrV sb, .int .u64 (x : Int), .string name, .agg #[.int .u64 v.row, .int .i64 pg, .int .i64 sl, .slice Ar nr cr], .slice A3 1 c3] w fun e w' => if code = 0 then e = .returned (.int .i64 z) /\ LawTo w0 w sb K (putSt s t.id H2 left') w' else e = .returned (.int .i64 (code : Int)) /\ LawTo w0 w sb K s w' := by
 obtain ⟨o, h1, h2, h3, h4⟩ := h
 refine (store_update h1 hx hy hf ht hc hid hI hH hle hn hv hc3 hm3 hg hx1 hx2 hcode hins hst).mono ?_
 intro e w' hp
 unfold UpdPost at hp
 split at hp
 ·rename_i hz
  rw [if_pos hz]
  exact ⟨hp.1, law_step h1 h2 h3 h4 hp.2⟩
 ·rename_i hz
  rw [if_neg hz]
  exact ⟨hp.1, law_step h1 h2 h3 h4 hp.2⟩
theorem law_scan {x i : Nat} {y : Snap} {t : TE} {name nm : ByteArray} {H : List (List (Option Tup))} (h : LawSt w0 w sb K s) (hx : U64 x) (hy : s.sn x = some y) (hf : findT s.L y name s.T = some i) (ht : s.T[i]? = some t) (hc : t.cols = [(nm, 1)]) (hid : U64 t.id)
  (hH : s.hs t.id = some H) (hN : ∀ k, k <= H.length -> (placesH H k).length <= 1000000) (hI : IntHeap H) :
  Calls Tryz.prog 13 #[ptrV sb, .int .u64 (x : Int), .string name] w (StoreScanPost w (seenR H s.L y (placesH H H.length))) := by
 obtain ⟨o, h1, h2, h3, h4⟩ := h
 exact store_scan h1 hx hy hf ht hc hid hH hN hI
end
def LitRow (w : World) (size : Nat) (xs : List Value) (e : Ending) (w' : World) : Prop := ∃ b, e = .returned (.slice (some ⟨b, 0, none⟩) 1 1) /\ Quiet w w' /\ w.heap.size <= b /\ b < w'.heap.size /\ Rd w' (fun k => k = b) size (some ⟨b, 0, none⟩) 1 xs
def tabA : TE := ⟨1, ⟨#[116]⟩, [(⟨#[97]⟩, 1)], 1, 0⟩
def stA (L : List Nat) (H : List (List (Option Tup))) (left last : Nat) (sn : Nat -> Option Snap) : St := ⟨L, [tabA], [], 1, left, upd (fun _ => none) 1 (some H), fun _ => none, sn, last⟩
section
variable {L : List Nat} {H H' : List (List (Option Tup))} {left left' last x v : Nat} {sn : Nat -> Option Snap}
theorem stA_beg : begSt (stA L H left last sn) = stA (L ++ [1]) H left last (upd sn (L.length + 1) (some (takeS (L ++ [1]) (L.length + 1)))) := rfl
theorem stA_end : endSt (stA L H left last sn) x v = stA (endL L x v).2 H left last (upd sn x none) := rfl
theorem stA_ins : insSt (stA L H left last sn) tabA.id H' left' = stA L H' left' (last + 1) sn := by
 show insSt (stA L H left last sn) 1 H' left' = _
 simp only [insSt, stA, upd_upd]
theorem stA_put : putSt (stA L H left last sn) tabA.id H' left' = stA L H' left' last sn := by
 show putSt (stA L H left last sn) 1 H' left' = _
 simp only [putSt, stA, upd_upd]
end
theorem tabA_found {L : List Nat} {y : Snap} (h : seesS L y 1 = true) : findT L y ⟨#[116]⟩ [tabA] = some 0 := by
 unfold findT
 rw [List.findIdx?_cons]
 have : isTE L y ⟨#[116]⟩ tabA = true := by
  unfold isTE visS
  show ((⟨#[116]⟩ : ByteArray).toList == (⟨#[116]⟩ : ByteArray).toList && (seesS L y 1 && (decide ((0 : Nat) = 0) || !seesS L y 0))) = true
  rw [h]
  simp
 rw [if_pos this]
def Nine (s : Option Tup) : Prop := ∃ v, s = some v /\ v.data.length = 9
theorem nine_spent {T : List (Option Tup)} (h : ∀ s ∈ T, Nine s) : spentT T = 43 * T.length := by
 induction T with
 | nil => rfl
 | cons s T ih =>
  obtain ⟨v, rfl, hv⟩ := h s (List.mem_cons_self ..)
  have := ih (fun s hs => h s (List.mem_cons_of_mem _ hs))
  unfold spentT at this ⊢
  rw [List.map_cons, List.sum_cons, this, List.length_cons]
  show 4 + v.size + _ = _
  unfold Tup.size
  omega
theorem nine_free {T : List (Option Tup)} (h : ∀ s ∈ T, Nine s) : freeT T = T.length := by
 unfold freeT
 rw [List.findIdx?_eq_none_iff.2 (fun s hs => by obtain ⟨v, rfl, _⟩ := h s hs; rfl)]
 rfl
theorem nine_room {T : List (Option Tup)} (h : ∀ s ∈ T, Nine s) (hm : T.length <= 10) : 9 <= roomT T := by
 unfold roomT
 rw [nine_spent h, nine_free h, if_pos rfl]
 omega
theorem nine_ins {T : List (Option Tup)} {t : Tup} {left : Nat} (h : ∀ s ∈ T, Nine s) (hm : T.length <= 10) (ht : t.rightB = true) (hd : t.data.length = 9) : hIns [T] left t = (((0 : Int), (T.length : Int), 0), [T ++ [some t]], left) := by
 unfold hIns
 rw [if_neg (by rw [ht]; decide), hd]
 have : findH [T] 9 = some 0 := by
  unfold findH
  rw [List.findIdx?_cons, if_pos (by simpa using nine_room h hm)]
 rw [this]
 show (((0 : Int), ((freeT T : Nat) : Int), 0), [insT T t], left) = _
 unfold insT
 rw [nine_free h, if_pos rfl]
theorem nine_first {t : Tup} {left : Nat} (ht : t.rightB = true) (hl : left ≠ 0) : hIns [] left t = (((0 : Int), 0, 0), [[some t]], left - 1) := by
 unfold hIns
 rw [if_neg (by rw [ht]; decide)]
 show (if left = 0 then _ else _) = _
 rw [if_neg hl]
 rfl
theorem nine_right {r x n : Nat} (hr : r <= 1099511627776) (hx : x <= 1099511627776) : (⟨r, x, 0, -1, -1, rowI n⟩ : Tup).rightB = true := by
 unfold Tup.rightB
 refine decide_eq_true ⟨hr, hx, Nat.zero_le _, (by show farB (-1) (-1) = false; decide), ?_⟩
 show (rowI n).length <= 200
 rw [rowI_length]
 omega
theorem nine_stamp {v : Tup} {T : List (Option Tup)} {x : Nat} {p q : Int} (hx : x <= 1099511627776) (hf : farB p q = false) : hStamp [some v :: T] 0 0 x p q = (0, [some (v.stamp x p q) :: T]) := by
 unfold hStamp
 rw [if_neg (by simp)]
 have : pStampT (some v :: T) 0 x p q = (0, some (v.stamp x p q) :: T) := by
  unfold pStampT
  rw [if_neg (by rw [hf]; simp; omega)]
  rfl
 show ((pStampT (some v :: T) 0 x p q).1, [(pStampT (some v :: T) 0 x p q).2]) = _
 rw [this]
end Go.Proofs.YthipgglplneijaaGreatDoor
namespace Go.Lap
def idxE (e : IE) : List Value := [.int .u64 (e.id : Int), .string e.name, .int .u64 (e.table : Int), .int .i64 (e.column : Int), .int .u64 (e.xmin : Int), .int .u64 (e.xmax : Int)]
abbrev idxV (l : List IE) : List Value := l.flatMap idxE
def keptI (L : List Nat) (id : Nat) (I : List IE) : List IE := I.filter (fun x => decide (x.table = id) && !decide (stateL L x.xmin = 3))
theorem idxV_length : ∀ (l : List IE), (idxV l).length = l.length * 6
 | [] => rfl
 | x :: l => by unfold idxV; rw [List.flatMap_cons, List.length_append]; have := idxV_length l; unfold idxV at this; rw [this, List.length_cons]; show 6 + _ = _; omega
theorem idxV_append (l m : List IE) : idxV (l ++ m) = idxV l ++ idxV m := List.flatMap_append
theorem one_idx (e : IE) : ∀ u ∈ idxE e, u.oneCell' = true := by
 intro u hu
 simp [idxE] at hu
 rcases hu with rfl | rfl | rfl | rfl | rfl | rfl <;> rfl
theorem keptI_take {L : List Nat} {id : Nat} {I : List IE} {k : Nat} {e : IE} (h : I[k]? = some e) : keptI L id (I.take (k + 1)) = keptI L id (I.take k) ++ (if (decide (e.table = id) && !decide (stateL L e.xmin = 3)) = true then [e] else []) := by
 unfold keptI
 rw [List.take_add_one, h, Option.toList_some, List.filter_append]
 congr 1
 rw [List.filter_cons, List.filter_nil]
end Go.Lap
namespace Go.Proofs.YthipgglplneijaaGreatDoor
open Go.RowKit Go.Lap
theorem info_idx : (Tryz.prog.info? 111).map (·.size) = some 6 := by kernel_rfl
theorem elem_idx : Elem Tryz.prog 106 111 6 56 := Elem.mk' (.agg #[.int .u64 0, .string ⟨#[]⟩, .int .u64 0, .int .i64 0, .int .u64 0, .int .u64 0]) Tryz.underlying106 (by kernel_rfl) rfl (by decide)
def IdxTold (w : World) (e : IE) (r : Ending) (w' : World) : Prop := r = .returned (.agg #[.int .u64 (e.id : Int), .string e.name, .int .u64 (e.table : Int), .int .i64 (e.column : Int), .int .u64 (e.xmin : Int), .int .u64 (e.xmax : Int)]) /\ Quiet w w'
theorem IdxAt.cells {w : World} {F : Nat -> Prop} {xb : Nat} {e : IE} (h : IdxAt w F xb e) : w.cell? ⟨xb, 0, none⟩ = some (.int .u64 (e.id : Int)) /\ w.cell? ⟨xb, 1, none⟩ = some (.string e.name) /\ w.cell? ⟨xb, 2, none⟩ = some (.int .u64 (e.xmin : Int)) /\ w.cell? ⟨xb, 3, none⟩ = some (.int .u64 (e.xmax : Int)) /\ w.cell? ⟨xb, 4, none⟩ = some (.int .u64 (e.table : Int)) /\ w.cell? ⟨xb, 5, none⟩ = some (.int .i64 (e.column : Int)) :=
 ⟨by rw [cell_of h.box]; rfl, by rw [cell_of h.box]; rfl, by rw [cell_of h.box]; rfl, by rw [cell_of h.box]; rfl, by rw [cell_of h.box]; rfl, by rw [cell_of h.box]; rfl⟩
set_option maxHeartbeats 1000000 in
theorem index_told {w : World} {F : Nat -> Prop} {xb : Nat} {e : IE} (h : IdxAt w F xb e) :
  Calls Tryz.prog 85 #[ptrV xb] w (IdxTold w e) := by
 have HQ0 : Hid (Quiet w (w.alloc (.cells #[.int .u64 0, .string ⟨#[]⟩, .int .u64 0, .int .i64 0, .int .u64 0, .int .u64 0] 111))) := (Only.refl _ _).alloc _
 have HB2 := Lib.hid (alloc_new w (.cells #[.int .u64 0, .string ⟨#[]⟩, .int .u64 0, .int .i64 0, .int .u64 0, .int .u64 0] 111))
 have hlx := lt_of_get h.box
 obtain ⟨r2, hr2⟩ : ∃ r2, w.heap.size = r2 := ⟨_, rfl⟩
 rw [hr2] at HB2
 have HR2 : Hid (xb ≠ r2 /\ w.heap.size <= r2) := ⟨by omega, by omega⟩
 have HH := Lib.hid h
 clear h hlx
 go_enter Tryz.func85, Tryz.ntmps85
 go_wp2_with fail
 (try rw [hr2])
 generalize w.alloc (.cells #[.int .u64 0, .string ⟨#[]⟩, .int .u64 0, .int .i64 0, .int .u64 0, .int .u64 0] 111) = w1 at *
 have HS : Hid (∀ W, Only (fun k => k = r2) w1 W -> (fun w' => w'.cell? ⟨xb, 0, none⟩ = some (.int .u64 (e.id : Int)) /\ w'.cell? ⟨xb, 1, none⟩ = some (.string e.name) /\ w'.cell? ⟨xb, 2, none⟩ = some (.int .u64 (e.xmin : Int)) /\ w'.cell? ⟨xb, 3, none⟩ = some (.int .u64 (e.xmax : Int)) /\ w'.cell? ⟨xb, 4, none⟩ = some (.int .u64 (e.table : Int)) /\ w'.cell? ⟨xb, 5, none⟩ = some (.int .i64 (e.column : Int))) W) := fun W ho => by
  obtain ⟨c0, c1, c2, c3, c4, c5⟩ := (HH.out.kept HQ0.out (fun _ _ x => x)).cells
  exact ⟨ho.cell c0 (fun x => HR2.out.1 x), ho.cell c1 (fun x => HR2.out.1 x), ho.cell c2 (fun x => HR2.out.1 x), ho.cell c3 (fun x => HR2.out.1 x), ho.cell c4 (fun x => HR2.out.1 x), ho.cell c5 (fun x => HR2.out.1 x)⟩
 clear hr2
 refine zH HS ((Only.refl _ _).drew) (fun hHeld => ?_)
 simp only [List.size_toArray, List.length_cons, List.length_nil, Nat.reduceAdd]
 have q0 : Quiet w1 w1.drew := (Only.refl _ _).drew
 generalize w1.drew = d0 at q0 hHeld ⊢
 refine zT 0 ?_
 refine zT 1 ?_
 refine zT 2 ?_
 refine zT 3 ?_
 refine zT 4 ?_
 refine zT 5 ?_
 refine zT 6 ?_
 refine zT 7 ?_
 refine zT 8 ?_
 refine zT 9 ?_
 refine zT 10 ?_
 refine zT 11 ?_
 refine zT 12 ?_
 refine zT 13 ?_
 refine zT 14 ?_
 refine zT 15 ?_
 refine zT 16 ?_
 refine zT 17 ?_
 refine zT 18 ?_
 refine zT 19 ?_
 refine zT 20 ?_
 refine zT 21 ?_
 refine zT 22 ?_
 refine zT 23 ?_
 refine zT 24 ?_
 refine zT 25 ?_
 refine zT 26 ?_
 refine zT 27 ?_
 refine zT 28 ?_
 refine zR 29 ?_
 intro K hK
 have h2 := q0.get HB2.out (fun x => x)
 have z0 := cell_of h2 0
 have z1 := cell_of h2 1
 have z2 := cell_of h2 2
 have z3 := cell_of h2 3
 have z4 := cell_of h2 4
 have z5 := cell_of h2 5
 have zf := fun o => frozen_of h2 o
 simp only [zGA, zGS, zGZ] at z0 z1 z2 z3 z4 z5
 go_simp
 refine hK.out _ _ ?_ (fun hHeld => ?_)
 ·exact HS.out _ ((q0.mono (T := fun k => k = r2) (fun _ _ x => x.elim)).trans' (sixSet_only d0 r2 (.int .u64 (e.id : Int)) (.string e.name) (.int .u64 (e.table : Int)) (.int .i64 (e.column : Int)) (.int .u64 (e.xmin : Int)) (.int .u64 (e.xmax : Int))) (fun k _ e => e))
 clear hK K
 (try simp only [Act.put, zPA, zPZ, zPS])
 refine wpAnyH_done (by kernel_rfl) ?_ _
 have HX : Hid ((sixSet d0 r2 (.int .u64 (e.id : Int)) (.string e.name) (.int .u64 (e.table : Int)) (.int .i64 (e.column : Int)) (.int .u64 (e.xmin : Int)) (.int .u64 (e.xmax : Int))).heap[r2]? = some (.cells #[.int .u64 (e.id : Int), .string e.name, .int .u64 (e.table : Int), .int .i64 (e.column : Int), .int .u64 (e.xmin : Int), .int .u64 (e.xmax : Int)] 111 (0, 0))) := sixSet_same h2 _ _ _ _ _ _
 have HP : Hid (IdxTold w e (.returned (.agg #[.int .u64 (e.id : Int), .string e.name, .int .u64 (e.table : Int), .int .i64 (e.column : Int), .int .u64 (e.xmin : Int), .int .u64 (e.xmax : Int)])) (sixSet d0 r2 (.int .u64 (e.id : Int)) (.string e.name) (.int .u64 (e.table : Int)) (.int .i64 (e.column : Int)) (.int .u64 (e.xmin : Int)) (.int .u64 (e.xmax : Int)))) := ⟨rfl, (HQ0.out.trans q0).trans' (sixSet_only d0 r2 (.int .u64 (e.id : Int)) (.string e.name) (.int .u64 (e.table : Int)) (.int .i64 (e.column : Int)) (.int .u64 (e.xmin : Int)) (.int .u64 (e.xmax : Int))) (fun k hk e => by have := HR2.out.2; omega)⟩
 unfold sixSet at HX HP
 clear hHeld q0 h2 z0 z1 z2 z3 z4 z5 zf
 go_wp2
 exact bodyPost_ret (results_cellS Tryz.results85 _ _ r2 _ _ (0, 0) _ (by rfl) HX.out Tryz.underlying111 rfl info_idx) (by rfl) HP.out
structure IdxsW (w wr : World) (v : Value) (l : List IE) : Prop where
 quiet : Quiet w wr
 new : ∀ k, v.ownBlock = some k -> w.heap.size <= k
 own : wr.ownsRow 0 111 6 v l.length (idxV l)
theorem IdxsW.start {w wr : World} (h : Quiet w wr) : IdxsW w wr (.slice none 0 0) [] := ⟨h, (fun k e => by cases e), World.ownsRow_nil _ _ _ _⟩
theorem IdxsW.quietly {w wr w' : World} {v : Value} {l : List IE} (h : IdxsW w wr v l) (hq : Quiet wr w') : IdxsW w w' v l := ⟨h.quiet.trans hq, h.new, owns_kept h.own hq (fun _ _ x => x)⟩
theorem IdxsW.push {w w3 w4 : World} {v v' : Value} {l : List IE} {e : IE} (h : IdxsW w w3 v l) (hg : Grew w3 w4 111 6 v v' (l.length + 1) (idxV l ++ idxE e)) : IdxsW w w4 v' (l ++ [e]) := by
 have hsz := h.quiet.size
 refine ⟨h.quiet.trans' hg.only (fun k hk e => by have := h.new k e; omega), fun k e => ?_, ?_⟩
 ·rcases hg.loc with y | y
  ·rw [y] at e; exact h.new k e
  ·rw [y] at e; injection e with e; omega
 ·rw [List.length_append, idxV_append]
  have e1 : idxV [e] = idxE e := by simp [idxV]
  rw [e1]
  exact hg.own
def KeepPost (w : World) (l : List IE) (e : Ending) (w' : World) : Prop := ∃ v, e = .returned v /\ IdxsW w w' v l
set_option maxHeartbeats 2000000 in
theorem book_keep {w : World} {F Fl : Nat -> Prop} {bb lb last id : Nat} {T : List TE} {I : List IE} {L : List Nat} (h : BookIs w F bb T I last) (hl : LogAt w Fl lb L) (hI : I.length <= 1000) :
  Calls Tryz.prog 61 #[ptrV bb, ptrV lb, .int .u64 (id : Int)] w (KeepPost w (keptI L id I)) := by
 obtain ⟨vT, tps, vI, ips, h, h2, h3⟩ := h
 obtain ⟨_, c1, _⟩ := h.cells
 obtain ⟨A, c, hv, hc, hm, hf⟩ := ptr_form h.rowI
 subst hv
 have HF := Lib.hid hf
 have HX := Lib.hid h3
 have HL := Lib.hid hl
 have lbb := lt_of_get h.box
 obtain ⟨n, hn⟩ : ∃ n, I.length = n := ⟨_, rfl⟩
 have hin : ips.length = n := h2.trans hn
 rw [hin] at c1 hc
 have HIN := Lib.hid hin
 have HN := Lib.hid hn
 rw [hn] at hI
 obtain ⟨POST, hPOST⟩ : ∃ POST, KeepPost w (keptI L id I) = POST := ⟨_, rfl⟩
 rw [hPOST]
 have HPOST := Lib.hid hPOST
 unfold maxLen at hm
 clear h h2 h3 hf hl hn hin hPOST
 go_enter Tryz.func61, Tryz.ntmps61
 go_wp2
 go_loopw [17, 7, 9] (fun i v _ wr => ∃ (k : Nat) (v' : Value), k <= n /\ i = .int .i64 (k : Int) /\ v = v' /\ IdxsW w wr v' (keptI L id (I.take k))) (fun i _ _ _ => n - (intOf i).toNat)
 case atStart => exact ⟨0, _, Nat.zero_le _, rfl, rfl, IdxsW.start (Only.refl _ _)⟩
 case round =>
  obtain ⟨k, v', hk, rfl, rfl, hW⟩ := hrel
  have HW := Lib.hid hW
  clear hW
  by_cases hlt : k < n
  ·obtain ⟨e, he⟩ : ∃ e, I[k]? = some e := ⟨_, List.getElem?_eq_getElem (by have := HN.out; omega)⟩
   obtain ⟨p, hp, hix⟩ := HX.out k e he
   obtain ⟨g, rfl, hg⟩ := HF.out k p hp
   have hg2 := HW.out.quiet.cell hg (fun x => x)
   have hix2 := hix.kept HW.out.quiet (fun _ _ x => x)
   obtain ⟨e0, e1, e2, e3, e4, e5⟩ := hix2.cells
   have HT := Lib.hid (keptI_take (L := L) (id := id) he)
   have HIX := Lib.hid hix2
   have HST : Hid (Calls Tryz.prog 90 #[ptrV lb, .int .u64 (e.xmin : Int)] wr (fun r w' => r = .returned (.int .i64 (stateL L e.xmin : Int)) /\ ∃ m, w' = wr.drewN m)) := log_state (HL.out.kept HW.out.quiet (fun _ _ x => x)) hix.num.2.1
   clear he hp hg hix hix2
   by_cases ht : e.table = id
   ·obtain ⟨sx, hsx⟩ : ∃ sx, stateL L e.xmin = sx := ⟨_, rfl⟩
    rw [hsx] at HST HT
    have htb : ((e.table : Int) == (id : Int)) = true := by simp [ht]
    have htd : decide (e.table = id) = true := decide_eq_true ht
    rw [htd] at HT
    by_cases h3 : sx = 3
    ·have HEQ : Hid (keptI L id (I.take (k + 1)) = keptI L id (I.take k)) := by
      show _ = _
      rw [HT.out, h3]
      simp
     subst ht
     subst h3
     clear htb htd HT
     go_wp2_with fail
     refine HST.out.mono ?_
     rintro r w2 ⟨rfl, m, rfl⟩
     have HW2 := Lib.hid (HW.out.quietly ((Only.refl (fun _ => False) wr).drewN m))
     rw [<- HEQ.out] at HW2
     clear HST
     go_wp2
     go_roundw
     case rel => exact ⟨k + 1, _, by omega, by go_num, rfl, HW2.out⟩
     case measure => simp [intOf]; omega
    ·have HEQ : Hid (keptI L id (I.take (k + 1)) = keptI L id (I.take k) ++ [e]) := by
      show _ = _
      rw [HT.out]
      simp [h3]
     have h3i : ¬ (sx : Int) = 3 := by omega
     subst ht
     clear htb htd HT h3
     go_wp2_with fail
     refine HST.out.mono ?_
     rintro r w2 ⟨rfl, m, rfl⟩
     have hqd : Quiet wr (wr.drewN m) := (Only.refl (fun _ => False) wr).drewN m
     have HW2 := Lib.hid (HW.out.quietly hqd)
     have HTO := Lib.hid (index_told (HIX.out.kept hqd (fun _ _ x => x)))
     clear HST hqd
     go_wp2_with fail
     refine HTO.out.mono ?_
     rintro r w3 ⟨rfl, hq3⟩
     have HW3 := Lib.hid (HW2.out.quietly hq3)
     have HRD := Lib.hid (Rd.new w3 6 1 (idxE e) 111 (fun _ => True) rfl trivial)
     have HW4 := Lib.hid (HW3.out.quietly ((Only.refl (fun _ => False) w3).alloc (.cells (idxE e).toArray 111)))
     have hml : (keptI L e.table (I.take k)).length <= n := by
      have e1 : (keptI L e.table (I.take k)).length <= (I.take k).length := List.length_filter_le _ _
      rw [List.length_take] at e1
      omega
     obtain ⟨ml, hml2⟩ : ∃ ml, (keptI L e.table (I.take k)).length = ml := ⟨_, rfl⟩
     have HML := Lib.hid hml2
     have hown := HW4.out.own
     rw [hml2] at hml hown
     have HOWN := Lib.hid hown
     clear hq3 HTO hml2 hown e0 e1 e2 e3 e4 e5 hg2
     go_wp2_with (at_builtin; refine app elem_idx rfl (.tmp 37) (.tmp 40) rfl rfl HOWN.out rfl HRD.out (one_idx e) (by unfold maxLen; omega) (by omega) ?_)
     intro v5 w5 hg5
     rw [<- HML.out] at hg5
     have HP := Lib.hid (HW4.out.push hg5)
     rw [<- HEQ.out] at HP
     clear hg5 HW4 HRD HOWN HW3
     go_wp2
     go_roundw
     case rel => exact ⟨k + 1, _, by omega, by go_num, rfl, HP.out⟩
     case measure => simp [intOf]; omega
   ·have htb : ((e.table : Int) == (id : Int)) = false := by simp; omega
    have HEQ : Hid (keptI L id (I.take (k + 1)) = keptI L id (I.take k)) := by
     show _ = _
     rw [HT.out]
     simp [ht]
    have hti : ¬ (e.table : Int) = (id : Int) := by omega
    have HW2 := HW.out
    rw [<- HEQ.out] at HW2
    have HW3 := Lib.hid HW2
    clear ht HT HST HW2
    go_wp2
    go_roundw
    case rel => exact ⟨k + 1, _, by omega, by go_num, rfl, HW3.out⟩
    case measure => simp [intOf]; omega
  ·obtain rfl : k = n := by omega
   have HEND : Hid (POST (.returned u7) wr) := by
    rw [<- HPOST.out]
    have := HW.out
    rw [List.take_of_length_le (by have := HN.out; omega)] at this
    exact ⟨u7, rfl, this⟩
   go_wp2
   exact HEND.out
end Go.Proofs.YthipgglplneijaaGreatDoor
namespace Go.Lap
def keyB (n s : Nat) : Nat := if s = 0 then 128 else if s = 7 then n else 0
def keyTo (n k : Nat) : List Nat := (List.range k).map (keyB n)
def keyI (n : Nat) : List Nat := 3 :: keyTo n 8
theorem keyTo_succ (n k : Nat) : keyTo n (k + 1) = keyTo n k ++ [keyB n k] := by simp [keyTo, List.range_succ]
theorem keyTo_length (n k : Nat) : (keyTo n k).length = k := by simp [keyTo]
theorem keyI_length (n : Nat) : (keyI n).length = 9 := by simp [keyI, keyTo_length]
theorem keyB_lt {n : Nat} (hn : n < 256) (s : Nat) : keyB n s < 256 := by unfold keyB; split <;> (try split) <;> omega
theorem keyI_bytes {n : Nat} (hn : n < 256) : ∀ x ∈ keyI n, x < 256 := by
 intro x hx
 rcases List.mem_cons.1 hx with e | e
 ·omega
 ·obtain ⟨i, _, e⟩ := List.mem_map.1 e
  rw [<- e]; exact keyB_lt hn i
theorem key_byte {n j : Nat} (hn : n < 256) (hj : j < 8) : ((9223372036854775808 + n : Nat) : Int) / 2 ^ (8 * j) % 256 = ((keyB n (7 - j) : Nat) : Int) := by
 unfold keyB
 rcases j with _ | _ | _ | _ | _ | _ | _ | _ | j
 all_goals first | omega | (simp; omega)
end Go.Lap
namespace Go.Proofs.YthipgglplneijaaGreatDoor
open Go.RowKit Go.Lap
theorem xor_sign : ∀ n : Fin 256, bits BinOp.xor IntKind.u64 ((n.val : Nat) : Int) 9223372036854775808 = ((9223372036854775808 + n.val : Nat) : Int) := by decide +kernel
set_option maxHeartbeats 2000000 in
theorem key_bytes_int {w : World} {S2 : Nat -> Prop} {A2 : Option Addr} {c2 : Nat} {n : Nat} (hn : n < 256) (hv : Rd w S2 4 A2 1 (intRow n)) (hc2 : 1 <= c2) (hm2 : c2 <= maxLen) :
  Calls Tryz.prog 95 #[.slice A2 1 c2] w (RowPost w (keyI n)) := by
 obtain ⟨b2, off2, rfl, _, v0, v1, v2, v3⟩ := intRow.get hv
 have l2 := cell_lt v0
 dsimp only at l2
 have hx0 := xor_sign ⟨n, hn⟩
 obtain ⟨z, hz⟩ : ∃ z : Nat, 9223372036854775808 + n = z := ⟨_, rfl⟩
 have hx : bits BinOp.xor IntKind.u64 (n : Int) 9223372036854775808 = (z : Int) := by rw [<- hz]; exact hx0
 have HZ := Lib.hid hz
 unfold maxLen at hm2
 obtain ⟨POST, hPOST⟩ : ∃ POST, RowPost w (keyI n) = POST := ⟨_, rfl⟩
 rw [hPOST]
 have HPOST := Lib.hid hPOST
 clear hv hx0 hz hPOST
 go_enter Tryz.func95, Tryz.ntmps95
 go_wp2_with fail
 refine wp_loop_rounds 2 ?_
 rw [rounds_succ]
 go_wp2_with fail
 have hb0 : (w.alloc (.cells (intCells n) 50)).heap[w.heap.size]? = some (.cells (intCells n) 50 (0, 0)) := alloc_new w _
 have hq0 : Quiet w (w.alloc (.cells (intCells n) 50)) := (Only.refl _ _).alloc _
 obtain ⟨bx, hbx⟩ : ∃ bx, w.heap.size = bx := ⟨_, rfl⟩
 generalize w.alloc (.cells (intCells n) 50) = w1 at *
 refine (cell_right_int (n : Int) w1).mono ?_
 rintro e w2 ⟨rfl, hq2⟩
 rw [hbx] at hb0
 have hb2 := hq2.get hb0 (fun x => x)
 have HQ2 : Hid (Quiet w w2) := hq0.trans hq2
 have HB2 := Lib.hid hb2
 have x0 : w2.cell? ⟨bx, 0, none⟩ = some (.int .u8 1) := by rw [cell_of hb2]; rfl
 have x1 : w2.cell? ⟨bx, 1, none⟩ = some (.int .i64 (n : Int)) := by rw [cell_of hb2]; rfl
 have lbx := lt_of_get hb2
 have HRD3 : Hid (Rd (w2.alloc (.cells #[.int .u8 3] 5)) (fun _ => True) 1 (some ⟨w2.heap.size, 0, none⟩) 1 (bytesV [3])) := Rd.new w2 1 1 (bytesV [3]) _ _ rfl trivial
 clear hb0 hq0 hq2 hb2 v0 v1 v2 v3 l2
 go_wp2_with (at_builtin; refine app elem_u8 rfl (.tmp 44) (.tmp 45) rfl rfl (World.ownsRow_nil _ _ _ _) rfl HRD3.out (one_bytes [3]) (by unfold maxLen; omega) (by omega) ?_)
 intro v4 w4 hg4
 have hF0 : Fresh w w4 v4 (3 :: keyTo n 0) := by
  refine ⟨(HQ2.out.alloc _).trans' hg4.only (fun k hk e => by cases e), fun k e => ?_, hg4.own⟩
  have := HQ2.out.size
  rcases hg4.loc with y | y
  ·rw [y] at e; cases e
  ·rw [y] at e; injection e with e; simp only [World.size_alloc] at e; omega
 have hN4 : w4.cell? ⟨bx, 1, none⟩ = some (.int .i64 (n : Int)) := hg4.only.cell (((Only.refl (fun _ => False) w2).alloc (.cells #[.int .u8 3] 5)).cell x1 (fun x => x)) (fun e => by cases e)
 have HF0 := Lib.hid hF0
 have HB4 : Hid (∀ j, v4.ownBlock = some j -> j ≠ bx) := fun j e => by
  rcases hg4.loc with y | y
  ·rw [y] at e; cases e
  ·rw [y] at e; injection e with e; simp only [World.size_alloc] at e; omega
 have lbx4 := cell_lt hN4
 dsimp only at lbx4
 clear hg4 HRD3 hF0 x0 x1 lbx
 go_wp2_with fail
 go_loopw [9, 4] (fun i o wr => ∃ (m : Nat) (v' : Value), m <= 8 /\ i = .int .i64 ((m : Int) - 1) /\ o = v' /\ Fresh w wr v' (3 :: keyTo n (8 - m))) (fun i _ _ => ((intOf i) + 1).toNat)
 case atStart => exact ⟨8, _, Nat.le_refl _, rfl, rfl, HF0.out⟩
 case round =>
  obtain ⟨m, v', hm, rfl, rfl, hW⟩ := hrel
  rcases m with _ | j
  ·have hFR : Fresh w wr u4 (keyI n) := hW
   have HEND : Hid (POST (.returned (.tuple #[u4, .int .i64 0])) wr) := by
    rw [<- HPOST.out]
    exact ⟨u4, rfl, hFR⟩
   clear hW hFR
   go_wp2_with fail
   rw [rounds_succ]
   go_wp2_with fail
   exact HEND.out
  ·have ej : (((j + 1 : Nat) : Int) - 1) = (j : Int) := by omega
   rw [ej]
   have hj : j < 8 := by omega
   obtain ⟨x, hxx⟩ : ∃ x : Nat, keyB n (7 - j) = x := ⟨_, rfl⟩
   have e1 : (z : Int) / 2 ^ (8 * j) % 256 = (x : Int) := by rw [<- HZ.out, key_byte hn hj, hxx]
   have hx256 : x < 256 := by rw [<- hxx]; exact keyB_lt hn _
   have HS : Hid (keyTo n (8 - j) = keyTo n (8 - (j + 1)) ++ [x]) := by
    show _ = _
    rw [show 8 - j = (8 - (j + 1)) + 1 by omega, keyTo_succ, show 8 - (j + 1) = 7 - j by omega, hxx]
   have hl : (3 :: keyTo n (8 - (j + 1))).length <= 9 := by rw [List.length_cons, keyTo_length]; omega
   have HRD : Hid (Rd (wr.alloc (.cells #[.int .u8 (x : Int)] 5)) (fun _ => True) 1 (some ⟨wr.heap.size, 0, none⟩) 1 (bytesV [x])) := Rd.new wr 1 1 (bytesV [x]) _ _ rfl trivial
   have hown := owns_kept hW.own ((Only.refl (fun _ => False) wr).alloc (.cells #[.int .u8 (x : Int)] 5)) (fun _ _ x => x)
   obtain ⟨q, hq⟩ : ∃ q, 3 :: keyTo n (8 - (j + 1)) = q := ⟨_, rfl⟩
   rw [hq] at hW hown hl
   obtain ⟨ql, hql⟩ : ∃ ql, q.length = ql := ⟨_, rfl⟩
   rw [hql] at hown hl
   have HR1 := Lib.hid hown
   have HW := Lib.hid hW
   have HQL := Lib.hid hql
   have HQ := Lib.hid hq
   clear hW hown hxx hq hql ej
   go_wp2_with (at_builtin; refine app elem_u8 rfl (.tmp 55) (.tmp 61) rfl rfl HR1.out rfl HRD.out (one_bytes [x]) (by unfold maxLen; omega) (by omega) ?_)
   intro v6 w6 hg6
   rw [<- HQL.out] at hg6
   have HST := Lib.hid (HW.out.step hg6)
   rw [<- HQ.out, List.cons_append, <- HS.out] at HST
   clear hg6 HR1 HRD HW HS e1
   go_wp2
   go_roundw
   case rel => exact ⟨j, _, by omega, rfl, rfl, HST.out⟩
   case measure => simp [intOf]
theorem key_cells {w : World} {v : Value} {n : Nat} (h : w.ownsRow 0 50 4 v 1 (intRow n)) : ∃ b c, v = .slice (some ⟨b, 0, none⟩) 1 c /\ b < w.heap.size /\ w.cell? ⟨b, 0, none⟩ = some (.int .u8 1) /\ w.cell? ⟨b, 1, none⟩ = some (.int .i64 (n : Int)) /\ w.cell? ⟨b, 2, none⟩ = some (.string ⟨#[]⟩) /\ w.cell? ⟨b, 3, none⟩ = some (.bool false) := by
 rcases owns_cases h with ⟨_, e⟩ | ⟨b, c, rfl, _, _⟩
 ·cases e
 obtain ⟨cb, hcb⟩ := own_blk h (k := b) rfl
 exact ⟨b, c, rfl, lt_of_get hcb, h.cells (by rfl) 0 (.int .u8 1) rfl, h.cells (by rfl) 1 (.int .i64 (n : Int)) rfl, h.cells (by rfl) 2 (.string ⟨#[]⟩) rfl, h.cells (by rfl) 3 (.bool false) rfl⟩
set_option maxHeartbeats 2000000 in
theorem store_key {w : World} {c2 cd n : Nat} {t : TE} {nm : ByteArray} {Sc Sd : Nat -> Prop} {A A2 : Option Addr} {v : Tup} (ht : t.cols = [(nm, 1)]) (hr : Rd w Sc 2 A2 t.cols.length (colsV t.cols)) (hc2 : t.cols.length <= c2) (hm2 : c2 <= maxLen) (hn : n < 256) (hdat : v.data = rowI n) (hd : Rd w Sd 1 A 9 (bytesV (rowI n))) (hcd : 9 <= cd) (hmd : cd <= maxLen) :
  Calls Tryz.prog 47 #[tabV t A2 c2, tupV v A cd, .int .i64 0] w (FreshPost w (keyI n)) := by
 have hd9 : v.data.length = 9 := by rw [hdat]; exact rowI_length n
 have HQ0 : Hid (Quiet w ((w.alloc (.cells #[.int .u64 (t.id : Int), .string t.name, .slice A2 t.cols.length c2, .int .u64 (t.xmin : Int), .int .u64 (t.xmax : Int)] 83)).alloc (.cells #[.int .u64 v.row, .int .u64 v.xmin, .int .u64 v.xmax, .int .i64 v.pg, .int .i64 v.sl, .slice A 9 cd] 95))) := ((Only.refl _ _).alloc _).alloc _
 have HB3 := Lib.hid (alloc_old (alloc_new w (.cells #[.int .u64 (t.id : Int), .string t.name, .slice A2 t.cols.length c2, .int .u64 (t.xmin : Int), .int .u64 (t.xmax : Int)] 83)) (.cells #[.int .u64 v.row, .int .u64 v.xmin, .int .u64 v.xmax, .int .i64 v.pg, .int .i64 v.sl, .slice A 9 cd] 95))
 have HB4 := Lib.hid (two_new w (.cells #[.int .u64 (t.id : Int), .string t.name, .slice A2 t.cols.length c2, .int .u64 (t.xmin : Int), .int .u64 (t.xmax : Int)] 83) (.cells #[.int .u64 v.row, .int .u64 v.xmin, .int .u64 v.xmax, .int .i64 v.pg, .int .i64 v.sl, .slice A 9 cd] 95))
 obtain ⟨r3, hr3⟩ : ∃ r3, w.heap.size = r3 := ⟨_, rfl⟩
 obtain ⟨r4, hr4⟩ : ∃ r4, r3 + 1 = r4 := ⟨_, rfl⟩
 rw [hr3] at HB3 HB4
 rw [hr4] at HB4
 have HR := Lib.hid hr
 have HC2 := Lib.hid (And.intro hc2 hm2)
 have HT := Lib.hid ht
 have HX := Lib.hid hn
 have HD := Lib.hid hd
 have HDC := Lib.hid (And.intro hcd hmd)
 obtain ⟨POST, hPOST⟩ : ∃ POST, FreshPost w (keyI n) = POST := ⟨_, rfl⟩
 rw [hPOST]
 have HPOST := Lib.hid hPOST
 unfold tabV tupV
 rw [hd9]
 clear hr hc2 hm2 ht hn hd hcd hmd hPOST hdat hd9
 go_enter Tryz.func47, Tryz.ntmps47
 go_wp2_with fail
 (try simp only [World.size_alloc] at *)
 (try rw [hr3]); (try rw [hr4])
 generalize (w.alloc (.cells #[.int .u64 (t.id : Int), .string t.name, .slice A2 t.cols.length c2, .int .u64 (t.xmin : Int), .int .u64 (t.xmax : Int)] 83)).alloc (.cells #[.int .u64 v.row, .int .u64 v.xmin, .int .u64 v.xmax, .int .i64 v.pg, .int .i64 v.sl, .slice A 9 cd] 95) = w2 at *
 have HS1 : Hid (∀ W, Quiet w2 W -> (fun w' => w'.cell? ⟨r3, 0, none⟩ = some (.int .u64 (t.id : Int)) /\ w'.cell? ⟨r3, 1, none⟩ = some (.string t.name) /\ w'.cell? ⟨r3, 2, none⟩ = some (.slice A2 t.cols.length c2) /\ w'.cell? ⟨r3, 3, none⟩ = some (.int .u64 (t.xmin : Int)) /\ w'.cell? ⟨r3, 4, none⟩ = some (.int .u64 (t.xmax : Int)) /\ w'.cell? ⟨r4, 5, none⟩ = some (.slice A 9 cd)) W) := fun W hq => by
  have b3 := tabBox_cells (hq.get HB3.out (fun x => x))
  have b4 := hq.get HB4.out (fun x => x)
  exact ⟨b3.1, b3.2.1, b3.2.2.1, b3.2.2.2.1, b3.2.2.2.2, by rw [cell_of b4]; rfl⟩
 have HKND : Hid (∀ W', Quiet w2 W' -> Calls Tryz.prog 29 #[tabV t A2 c2] W' (KindsPost W' 1)) := fun W' hq => by
  have h2 := HR.out.kept (HQ0.out.trans hq) (fun _ _ x => x)
  have h3 := HC2.out
  rw [HT.out] at h2 h3
  exact store_kinds HT.out h2 h3.1 h3.2
 have HDAT : Hid (∀ W', Quiet w2 W' -> Rd W' Sd 1 A 9 (bytesV (rowI n))) := fun W' hq => HD.out.kept (HQ0.out.trans hq) (fun _ _ x => x)
 unfold tabV at HKND
 clear hr3 hr4
 refine zH HS1 (Only.refl _ _).drew (fun hHeld => ?_)
 simp only [List.size_toArray, List.length_cons, List.length_nil, Nat.reduceAdd]
 have q8 : Quiet w2 w2.drew := (Only.refl _ _).drew
 generalize w2.drew = d8 at q8 hHeld ⊢
 refine zT 0 ?_
 refine zT 2 ?_
 refine zT 3 ?_
 refine zR 1 ?_
 intro K hK
 go_simp
 go_at_call 29
 refine (HKND.out _ q8).mono ?_
 rintro e d9 ⟨v9, rfl, hf9⟩
 have q9 := q8.trans hf9.quiet
 obtain ⟨A9, c9, rfl, hc9, hm9, hrd9⟩ := own_form hf9.own
 clear hf9
 dsimp only
 refine hK.out _ _ ?_ (fun hHeld => ?_)
 ·exact HS1.out _ q9
 clear hK K
 (try simp only [Act.put, zPA, zPZ, zPS])
 refine zR 4 ?_
 intro K hK
 go_simp
 go_at_call 64
 refine (row_read_int HX.out (by exact hrd9) (HDAT.out _ q9) hc9 hm9 HDC.out.1 HDC.out.2).mono ?_
 rintro e d10 ⟨v10, rfl, hf10⟩
 have q10 := q9.trans hf10.quiet
 have hfv := FreshV.from9 q9 hf10
 clear hf10
 dsimp only
 refine hK.out _ _ ?_ (fun hHeld => ?_)
 ·exact HS1.out _ q10
 clear hK K
 (try simp only [Act.put, zPA, zPZ, zPS])
 refine zT 5 ?_
 refine zT 6 ?_
 refine zT 7 ?_
 refine zT 8 ?_
 refine zT 9 ?_
 refine wpAnyH_done (by kernel_rfl) ?_ _
 clear hHeld q8 q9 hrd9 hc9 hm9
 obtain ⟨b, cb, rfl, hlb, x0, x1, x2, x3⟩ := key_cells hfv.own
 have HQ10 : Hid (Quiet w d10) := HQ0.out.trans q10
 have HKB : Hid (Calls Tryz.prog 95 #[.slice (some ⟨d10.heap.size, 0, none⟩) 1 1] (d10.alloc (.cells (intCells n) 50)) (RowPost (d10.alloc (.cells (intCells n) 50)) (keyI n))) := key_bytes_int HX.out (Rd.new d10 4 1 (intRow n) 50 (fun _ => True) rfl trivial) (Nat.le_refl _) (by unfold maxLen; omega)
 have hqa : Quiet d10 (d10.alloc (.cells (intCells n) 50)) := (Only.refl _ _).alloc _
 have HQA : Hid (Quiet w (d10.alloc (.cells (intCells n) 50))) := HQ10.out.trans hqa
 clear hfv q10 HDAT HKND HS1 hqa
 go_wp2_with fail
 refine HKB.out.mono ?_
 rintro e w5 ⟨v5, rfl, hf5⟩
 have HEND : Hid (POST (.returned v5) w5) := by
  rw [<- HPOST.out]
  exact ⟨v5, rfl, HQA.out.trans hf5.quiet, fun k e => Nat.le_trans HQA.out.size (hf5.new k e), hf5.own⟩
 clear hf5 HKB x0 x1 x2 x3 hlb
 go_wp2
 exact HEND.out
def putTs (ent : Ent) (ts : Nat -> Option (List Ent)) (l : List IE) : Nat -> Option (List Ent) := l.foldl (fun ts e => upd ts e.id (some (putE ent ((ts e.id).getD [])))) ts
theorem putTs_snoc (ent : Ent) (ts : Nat -> Option (List Ent)) (l : List IE) (e : IE) : putTs ent ts (l ++ [e]) = upd (putTs ent ts l) e.id (some (putE ent ((putTs ent ts l e.id).getD []))) := by
 unfold putTs
 rw [List.foldl_append]
 rfl
theorem putTs_other {ent : Ent} {l : List IE} {i : Nat} : ∀ {ts : Nat -> Option (List Ent)}, (∀ e ∈ l, e.id ≠ i) -> putTs ent ts l i = ts i := by
 induction l with
 | nil => intro ts _; rfl
 | cons e l ih =>
  intro ts h
  have h1 : e.id ≠ i := h e (List.mem_cons_self ..)
  have h2 := ih (ts := upd ts e.id (some (putE ent ((ts e.id).getD [])))) (fun x hx => h x (List.mem_cons_of_mem _ hx))
  show putTs ent (upd ts e.id _) l i = ts i
  rw [h2]
  simp [upd, Ne.symm h1]
def putSx (s : St) (id : Nat) (H' : List (List (Option Tup))) (left' : Nat) (ent : Ent) : St := { s with left := left', hs := upd s.hs id (some H'), ts := putTs ent s.ts (keptI s.L id s.I) }
theorem keyRow_bytes {n : Nat} (hn : n < 256) : ∀ x ∈ rowI n, x < 256 := rowI_bytes hn
theorem zero_treeP (w : World) : (zeroValue 114).run Tryz.prog w = .ok (.pointer none) w := by kernel_rfl
theorem look_tree {W : World} {mt tb id : Nat} {ft : Nat -> Option Value} (h : MapF W mt ft) (hf : ft id = some (ptrV tb)) (hid : U64 id) : (Instr.lookup 64 (.map (some mt)) (.int .u64 (id : Int)) false).run Tryz.prog W = .ok (ptrV tb) W := by
 have := h.lookup Tryz.underlying64 Tryz.underlying29 false (zero_treeP _) hid
 rw [hf] at this
 simpa using this
theorem idxV_get : ∀ (M : List IE) (i : Nat) (m : IE), M[i]? = some m -> (idxV M)[i * 6]? = some (.int .u64 (m.id : Int)) /\ (idxV M)[i * 6 + 1]? = some (.string m.name) /\ (idxV M)[i * 6 + 2]? = some (.int .u64 (m.table : Int)) /\ (idxV M)[i * 6 + 3]? = some (.int .i64 (m.column : Int)) /\ (idxV M)[i * 6 + 4]? = some (.int .u64 (m.xmin : Int)) /\ (idxV M)[i * 6 + 5]? = some (.int .u64 (m.xmax : Int))
 | [], i, m, h => by simp at h
 | x :: M, 0, m, h => by
  simp at h
  subst h
  exact ⟨rfl, rfl, rfl, rfl, rfl, rfl⟩
 | x :: M, i + 1, m, h => by
  have ih := idxV_get M i m (by simpa using h)
  have e : idxV (x :: M) = .int .u64 (x.id : Int) :: .string x.name :: .int .u64 (x.table : Int) :: .int .i64 (x.column : Int) :: .int .u64 (x.xmin : Int) :: .int .u64 (x.xmax : Int) :: idxV M := rfl
  rw [e, show (i + 1) * 6 = i * 6 + 1 + 1 + 1 + 1 + 1 + 1 by omega]
  exact ih
theorem nodup_at {l : List IE} {k : Nat} {x : IE} (h : (l.map (fun e => e.id)).Nodup) (hx : l[k]? = some x) : ∀ e ∈ l.take k, e.id ≠ x.id := by
 intro e he hid
 obtain ⟨j, hj⟩ := List.mem_iff_getElem?.1 he
 have hjk : j < k := by
  have := (List.getElem?_eq_some_iff.1 hj).1
  rw [List.length_take] at this
  omega
 rw [List.getElem?_take_of_lt hjk] at hj
 obtain ⟨l1, e1⟩ := List.getElem?_eq_some_iff.1 hj
 obtain ⟨l2, e2⟩ := List.getElem?_eq_some_iff.1 hx
 have := (List.pairwise_iff_getElem.1 h) j k (by simpa using l1) (by simpa using l2) hjk
 simp only [List.getElem_map] at this
 rw [e1, e2] at this
 exact this hid
theorem StoreRow.setTree {w w' : World} {sb : Nat} {o : Nat -> Nat} {s : St} {lb bb pb mh mt ms : Nat} {fh ft fs : Nat -> Option Value} {id tb : Nat} {es' : List Ent} (h : StoreRow w sb o s lb bb pb mh mt ms fh ft fs) (hid : ft id = some (ptrV tb)) (ho : Only (fun k => o k = 11 + 2 * id) w w') (hl : TreeIs w' (fun k => o k = 11 + 2 * id ∨ w.heap.size <= k) tb es') :
  StoreRow w' sb (grow o w.heap.size w'.heap.size (11 + 2 * id)) { s with ts := upd s.ts id (some es') } lb bb pb mh mt ms fh ft fs := by
 obtain ⟨t1, t2, t3, t4, t5⟩ := h.tags
 have hg : OwnOn o (grow o w.heap.size w'.heap.size (11 + 2 * id)) := OwnOn.grow h.big
 refine ⟨ho.get h.box (fun x => by omega), logK h.log ho hg (by omega) (fun k x => by omega), bookK h.book ho hg (by omega) (fun k x => by omega), h.pool.kept ho (fun x => by omega),
   h.mH.kept ho (fun x => by omega), h.mT.kept ho (fun x => by omega), h.mS.kept ho (fun x => by omega), ⟨by rw [hg _ (by omega)]; exact t1, by rw [hg _ (by omega)]; exact t2, by rw [hg _ (by omega)]; exact t3, by rw [hg _ (by omega)]; exact t4, by rw [hg _ (by omega)]; exact t5⟩, fun k hk => grow_big h.big ho.size hk,
   heapsK h.heaps ho hg (fun k x i H _ => by omega), ⟨fun i hi => ?_, fun i es hi => ?_⟩, snapsK h.snaps ho hg (fun k x => by omega), h.num⟩
 ·by_cases e : i = id
  ·subst e; simp [upd] at hi
  ·exact h.trees.1 i (by simpa [upd, e] using hi)
 ·by_cases e : i = id
  ·subst e
   have : es' = es := by simpa [upd] using hi
   subst this
   exact ⟨tb, hid, hl.mono (fun k hk hlt => by rcases hk with x | x; rw [hg k (by omega)]; exact x; exact grow_new x hlt)⟩
  ·obtain ⟨tb2, e2, h2⟩ := h.trees.2 i es (by simpa [upd, e] using hi)
   exact ⟨tb2, e2, treeK h2 ho hg (by omega) (fun k x => by omega)⟩
set_option maxHeartbeats 4000000 in
theorem store_put {w : World} {sb c2 cd left' n : Nat} {o : Nat -> Nat} {s : St} {t : TE} {nm : ByteArray} {Sc Sd : Nat -> Prop} {A A2 : Option Addr} {H H' : List (List (Option Tup))} {p q : Int} {v : Tup} (h : StoreAt w sb o s) (hI : s.I.length <= 1000) (hid : U64 t.id) (hH : s.hs t.id = some H) (hle : H.length + s.left <= 256)
  (hc : t.cols = [(nm, 1)]) (hr : Rd w Sc 2 A2 t.cols.length (colsV t.cols)) (hSc : ∀ k, Sc k -> o k = 0) (hc2 : t.cols.length <= c2) (hm2 : c2 <= maxLen) (hn : n < 256) (hdat : v.data = rowI n) (hcd : 9 <= cd) (hmd : cd <= maxLen) (hd : Rd w Sd 1 A 9 (bytesV (rowI n))) (hS : ∀ k, Sd k -> o k = 0) (hins : hIns H s.left v = ((p, q, 0), H', left'))
  (hx : ∀ e ∈ keptI s.L t.id s.I, e.column = 0 /\ U64 e.id /\ ∃ es, s.ts e.id = some es /\ es.length <= 10000) (hnd : ((keptI s.L t.id s.I).map (fun e => e.id)).Nodup) :
  Calls Tryz.prog 30 #[ptrV sb, tabV t A2 c2, tupV v A cd] w (PutPost w sb o (putSx s t.id H' left' ⟨keyI n, p, q⟩) p q) := by
 obtain ⟨lb, bb, pb, mh, mt, ms, fh, ft, fs, h⟩ := h
 obtain ⟨hb, hf, hp⟩ := h.heaps.2 t.id H hH
 have HH := Lib.hid h
 have HP := Lib.hid hp
 have HF := Lib.hid hf
 have HID := Lib.hid hid
 have HD := Lib.hid hd
 have HI := Lib.hid hI
 have HIN := Lib.hid hins
 have HBY : Hid (∀ x ∈ v.data, x < 256) := by rw [hdat]; exact keyRow_bytes hn
 have HCC := Lib.hid (And.intro hc (And.intro hc2 hm2))
 have HCR := Lib.hid hr
 have HSC := Lib.hid hSc
 have HN := Lib.hid hn
 have HDAT := Lib.hid hdat
 have HCD := Lib.hid (And.intro hcd hmd)
 have HKX := Lib.hid (And.intro hx hnd)
 have hd9 : v.data.length = 9 := by rw [hdat]; exact rowI_length n
 have HD9 := Lib.hid hd9
 have HSD := Lib.hid hS
 have HLE := Lib.hid hle
 obtain ⟨q0, b4, b5, b6⟩ := put_new3 w (.cells #[.int .u64 (t.id : Int), .string t.name, .slice A2 t.cols.length c2, .int .u64 (t.xmin : Int), .int .u64 (t.xmax : Int)] 83) (.cells #[.int .u64 v.row, .int .u64 v.xmin, .int .u64 v.xmax, .int .i64 v.pg, .int .i64 v.sl, .slice A v.data.length cd] 95) (.cells #[.int .i64 0, .int .i64 0] 43)
 have HQ0 := Lib.hid q0
 have HB4 := Lib.hid b4
 have HB5 := Lib.hid b5
 have HB6 := Lib.hid b6
 obtain ⟨r4, hr4⟩ : ∃ r4, w.heap.size = r4 := ⟨_, rfl⟩
 obtain ⟨r5, hr5⟩ : ∃ r5, r4 + 1 = r5 := ⟨_, rfl⟩
 obtain ⟨r6, hr6⟩ : ∃ r6, r5 + 1 = r6 := ⟨_, rfl⟩
 rw [hr4] at HB4 HB5 HB6
 rw [hr5] at HB5 HB6
 rw [hr6] at HB6
 have HR6 : Hid (w.heap.size <= r6 /\ w.heap.size <= r4 /\ w.heap.size <= r5) := ⟨by omega, by omega, by omega⟩
 clear h hp hf hid hd hI hins hS hH q0 b4 b5 b6 hle hc hr hSc hc2 hm2 hn hdat hcd hmd hx hnd hd9
 unfold tabV tupV
 go_enter Tryz.func30, Tryz.ntmps30
 go_wp2_with fail
 (try simp only [World.size_alloc] at *)
 (try rw [hr4]); (try rw [hr5]); (try rw [hr6])
 generalize ((w.alloc (.cells #[.int .u64 (t.id : Int), .string t.name, .slice A2 t.cols.length c2, .int .u64 (t.xmin : Int), .int .u64 (t.xmax : Int)] 83)).alloc (.cells #[.int .u64 v.row, .int .u64 v.xmin, .int .u64 v.xmax, .int .i64 v.pg, .int .i64 v.sl, .slice A v.data.length cd] 95)).alloc (.cells #[.int .i64 0, .int .i64 0] 43) = wb at *
 have HBIG : Hid (∀ k, w.heap.size <= k -> o k = 0) := HH.out.big
 have HPB : Hid (pb < w.heap.size) := HH.out.pool.lt
 have HGN : Hid (∀ k, wb.heap.size <= k -> ¬ (o k = 10 + 2 * t.id ∨ k = pb)) := fun k hk x => by
  have := HBIG.out k (by have := HQ0.out.size; omega)
  have := HPB.out
  have := HQ0.out.size
  rcases x with x | x <;> omega
 have HS5 : Hid (∀ W, Only (fun k => o k = 10 + 2 * t.id ∨ k = pb) wb W -> (fun w' => w'.cell? ⟨sb, 3, none⟩ = some (.map (some mh)) /\ w'.cell? ⟨r4, 0, none⟩ = some (.int .u64 (t.id : Int)) /\ w'.cell? ⟨r5, 0, none⟩ = some (.int .u64 v.row) /\ w'.cell? ⟨r5, 1, none⟩ = some (.int .u64 v.xmin) /\ w'.cell? ⟨r5, 2, none⟩ = some (.int .u64 v.xmax) /\ w'.cell? ⟨r5, 3, none⟩ = some (.int .i64 v.pg) /\ w'.cell? ⟨r5, 4, none⟩ = some (.int .i64 v.sl) /\ w'.cell? ⟨r5, 5, none⟩ = some (.slice A v.data.length cd) /\ (Instr.lookup 63 (.map (some mh)) (.int .u64 (t.id : Int)) false).run Tryz.prog w' = .ok (ptrV hb) w') W) := fun W hq => by
  have h2 := HH.out.quietly HQ0.out
  obtain ⟨t1, t2, t3, t4, t5⟩ := h2.tags
  have b4 := hq.get HB4.out (fun x => by have := HBIG.out r4 HR6.out.2.1; have := HPB.out; have := HR6.out; rcases x with x | x <;> omega)
  have b5 := hq.get HB5.out (fun x => by have := HBIG.out r5 HR6.out.2.2; have := HPB.out; have := HR6.out; rcases x with x | x <;> omega)
  have c3 := hq.cell h2.cells.2.2.2.1 (fun x => by dsimp only at x; rcases x with x | x; omega; rw [x] at t1; omega)
  have hm := h2.mH.kept hq (fun x => by rcases x with x | x; omega; rw [x] at t3; omega)
  refine ⟨c3, (tabBox_cells b4).1, ?_, ?_, ?_, ?_, ?_, ?_, look_heap hm HF.out HID.out⟩ <;> (rw [cell_of b5]; rfl)
 have HINS : Hid (∀ W, Quiet wb W -> Calls Tryz.prog 60 #[ptrV hb, .agg #[.int .u64 v.row, .int .u64 v.xmin, .int .u64 v.xmax, .int .i64 v.pg, .int .i64 v.sl, .slice A v.data.length cd]] W (fun e w' => e = .returned (.tuple #[.agg #[.int .i64 p, .int .i64 q], .int .i64 0]) /\ Only (fun k => o k = 10 + 2 * t.id ∨ k = pb) W w' /\ PoolAt w' pb left' /\ HeapIs w' hb pb (fun k => o k = 10 + 2 * t.id ∨ W.heap.size <= k) H')) := fun W hq => by
  have hq2 := HQ0.out.trans hq
  have := heap_insert s.left v A cd Sd (HP.out.kept hq2 (fun _ _ x => x)) (HH.out.pool.kept hq2 (fun x => x)) HLE.out HBY.out (by rw [HD9.out, HDAT.out]; exact HD.out.kept hq2 (fun _ _ x => x)) (fun k hk => ⟨fun x => by have := HSD.out k hk; omega, fun x => by have := HSD.out k hk; have := HH.out.tags.2.1; rw [x] at *; omega⟩)
  rw [HIN.out] at this
  exact this
 clear hr4 hr5 hr6
 apply put_key (wb := wb) (hb := hb) (pb := pb) (left' := left') (p := p) (q := q) (Gw := fun k => o k = 10 + 2 * t.id) (H' := H')
 case main =>
   intro KEY
   refine zH HS5 ((Only.refl _ _).drew) (fun hHeld => ?_)
   simp only [List.size_toArray, List.length_cons, List.length_nil, Nat.reduceAdd]
   have q0 : Quiet wb wb.drew := (Only.refl _ _).drew
   generalize wb.drew = d0 at q0 hHeld ⊢
   refine zT 0 ?_
   refine zT 1 ?_
   refine zT 2 ?_
   refine zT 3 ?_
   refine zT 4 ?_
   refine zT 5 ?_
   refine zT 6 ?_
   refine zT 7 ?_
   refine wpAnyH_ready (rs := [8, 12]) (by kernel_rfl) (by simp) ?_
   refine zA ?_ ?_
   ·intro K hK
    go_simp
    go_at_call 60
    refine (HINS.out _ q0).mono ?_
    rintro e d2 ⟨rfl, hi1, hi2, hi3⟩
    have q2 := (q0.mono (T := (fun k => o k = 10 + 2 * t.id ∨ k = pb)) (fun _ _ x => x.elim)).trans hi1
    have hheap := hi3.lim
    have hpool := hi2
    clear hi1 hi2 hi3
    dsimp only
    refine hK.out _ _ ?_ (fun hHeld => ?_)
    ·exact HS5.out _ q2
    clear hK K
    (try simp only [Act.put, zPA, zPZ, zPS])
    refine zT 9 ?_
    refine zT 10 ?_
    refine zT 11 ?_
    refine zR 12 ?_
    intro K hK
    go_simp
    refine hK.out _ _ ?_ (fun hHeld => ?_)
    ·exact HS5.out _ (q2.alloc _)
    clear hK K
    (try simp only [Act.put, zPA, zPZ, zPS])
    have qd3 := q2.alloc (.cells #[.int .i64 0, .int .i64 0] 43)
    have hb1 := alloc_new d2 (.cells #[.int .i64 0, .int .i64 0] 43)
    have hnp : wb.heap.size <= d2.heap.size := q2.size
    have hpool := hpool.kept ((Only.refl (fun _ => False) d2).alloc (.cells #[.int .i64 0, .int .i64 0] 43)) (fun x => x)
    have hheap := hheap.kept ((Only.refl (fun _ => False) d2).alloc (.cells #[.int .i64 0, .int .i64 0] 43)) (fun _ _ x => x)
    obtain ⟨pt, hpt⟩ : ∃ pt, d2.heap.size = pt := ⟨_, rfl⟩
    (try rw [hpt] at hb1)
    (try rw [hpt] at hnp)
    (try rw [hpt])
    (try rw [hpt] at hheap)
    have hheap : HeapIs (d2.alloc (.cells #[.int .i64 0, .int .i64 0] 43)) hb pb (fun k => o k = 10 + 2 * t.id ∨ (wb.heap.size <= k /\ k ≠ pt)) H' := hheap.mono (fun k x => by rcases x.1 with y | y; exact Or.inl y; exact Or.inr ⟨by have := q0.size; omega, by omega⟩)
    generalize d2.alloc (.cells #[.int .i64 0, .int .i64 0] 43) = d3 at *
    clear hpt
    have z0 := cell_of hb1 0
    have z1 := cell_of hb1 1
    have zf := fun o => frozen_of hb1 o
    simp only [zGA, zGS, zGZ] at z0 z1
    refine zR 13 ?_
    intro K hK
    go_simp
    refine hK.out _ _ ?_ (fun hHeld => ?_)
    ·exact HS5.out _ (put_leaf qd3 hb1 hnp hpool hheap HGN.out (p := p) (q := q)).only
    clear hK K
    (try simp only [Act.put, zPA, zPZ, zPS])
    have HG := (put_leaf qd3 hb1 hnp hpool hheap HGN.out (p := p) (q := q))
    refine zT 14 ?_
    refine wpAnyH_done (by kernel_rfl) ?_ _
    generalize (d3.setCell ⟨pt, 0, none⟩ (.int .i64 p)).setCell ⟨pt, 1, none⟩ (.int .i64 q) = WF at HG ⊢
    exact KEY _ _ HG
   refine zA ?_ AllReadyH.nil
   intro K hK
   go_simp
   refine hK.out _ _ ?_ (fun hHeld => ?_)
   ·exact HS5.out _ ((q0.alloc _).mono (fun _ _ x => x.elim))
   clear hK K
   (try simp only [Act.put, zPA, zPZ, zPS])
   have qd1 := q0.alloc (.cells #[.int .i64 0, .int .i64 0] 43)
   have hb1 := alloc_new d0 (.cells #[.int .i64 0, .int .i64 0] 43)
   have hnp : wb.heap.size <= d0.heap.size := q0.size
   have hnz : (d0.alloc (.cells #[.int .i64 0, .int .i64 0] 43)).heap.size = d0.heap.size + 1 := by simp
   obtain ⟨pt, hpt⟩ : ∃ pt, d0.heap.size = pt := ⟨_, rfl⟩
   (try rw [hpt] at hb1)
   (try rw [hpt] at hnp)
   (try rw [hpt])
   (try rw [hpt] at hnz)
   generalize d0.alloc (.cells #[.int .i64 0, .int .i64 0] 43) = d1 at *
   clear hpt
   refine zR 8 ?_
   intro K hK
   go_simp
   go_at_call 60
   refine (HINS.out _ qd1).mono ?_
   rintro e d2 ⟨rfl, hi1, hi2, hi3⟩
   have q2 := (qd1.mono (T := (fun k => o k = 10 + 2 * t.id ∨ k = pb)) (fun _ _ x => x.elim)).trans hi1
   have hb2 := hi1.get hb1 (fun x => HGN.out _ hnp x)
   have hheap : HeapIs d2 hb pb (fun k => o k = 10 + 2 * t.id ∨ (wb.heap.size <= k /\ k ≠ pt)) H' := hi3.mono (fun k x => by rcases x with x | x; exact Or.inl x; exact Or.inr ⟨by omega, by omega⟩)
   have hpool := hi2
   clear hi1 hi2 hi3
   dsimp only
   refine hK.out _ _ ?_ (fun hHeld => ?_)
   ·exact HS5.out _ q2
   clear hK K
   (try simp only [Act.put, zPA, zPZ, zPS])
   have z0 := cell_of hb2 0
   have z1 := cell_of hb2 1
   have zf := fun o => frozen_of hb2 o
   simp only [zGA, zGS, zGZ] at z0 z1
   refine zT 9 ?_
   refine zT 10 ?_
   refine zT 11 ?_
   refine zR 13 ?_
   intro K hK
   go_simp
   refine hK.out _ _ ?_ (fun hHeld => ?_)
   ·exact HS5.out _ (put_leaf q2 hb2 hnp hpool hheap HGN.out (p := p) (q := q)).only
   clear hK K
   (try simp only [Act.put, zPA, zPZ, zPS])
   have HG := (put_leaf q2 hb2 hnp hpool hheap HGN.out (p := p) (q := q))
   refine zT 14 ?_
   refine wpAnyH_done (by kernel_rfl) ?_ _
   generalize (d2.setCell ⟨pt, 0, none⟩ (.int .i64 p)).setCell ⟨pt, 1, none⟩ (.int .i64 q) = WF at HG ⊢
   exact KEY _ _ HG
 case key =>
  intro pt W HL0
  have HL := Lib.hid HL0
  clear HL0 HS5 HINS
  have HOW : Hid (Only (fun k => o k = 10 + 2 * t.id ∨ k = pb) w W) := (HQ0.out.mono (fun _ _ x => x.elim)).trans' HL.out.only (fun k _ x => x)
  have HBW : Hid (∀ k, (o k = 10 + 2 * t.id ∨ k = pb) -> o k = 10 + 2 * t.id ∨ o k = 4) := fun k x => by rcases x with x | x; exact Or.inl x; rw [x]; exact Or.inr HH.out.tags.2.1
  have HS4 : Hid (∀ W', Quiet W W' -> (fun w' => w'.cell? ⟨sb, 1, none⟩ = some (ptrV bb) /\ w'.cell? ⟨sb, 0, none⟩ = some (ptrV lb) /\ w'.cell? ⟨r4, 0, none⟩ = some (.int .u64 (t.id : Int))) W') := fun W' hq => by
   have ho := HOW.out.trans' hq (fun k _ x => x.elim)
   have b4 := hq.get (HL.out.only.get HB4.out (fun x => by have := HBIG.out r4 HR6.out.2.1; have := HPB.out; have := HR6.out; rcases x with x | x <;> omega)) (fun x => x)
   have t1 := HH.out.tags.1
   have c := HH.out.cells
   exact ⟨ho.cell c.2.1 (fun x => by have := HBW.out _ x; dsimp only at this; omega), ho.cell c.1 (fun x => by have := HBW.out _ x; dsimp only at this; omega), (tabBox_cells b4).1⟩
  have HKEEP : Hid (∀ W', Quiet W W' -> Calls Tryz.prog 61 #[ptrV bb, ptrV lb, .int .u64 (t.id : Int)] W' (KeepPost W' (keptI s.L t.id s.I))) := fun W' hq => by
   have ho := HOW.out.trans' hq (fun k _ x => x.elim)
   have hbk := bookK HH.out.book ho (OwnOn.refl) (by omega) (fun k x => by have := HBW.out _ x; omega)
   have hlg := logK HH.out.log ho (OwnOn.refl) (by omega) (fun k x => by have := HBW.out _ x; omega)
   exact book_keep hbk hlg HI.out
  obtain ⟨o1, ho1⟩ : ∃ o1, grow o wb.heap.size W.heap.size (10 + 2 * t.id) = o1 := ⟨_, rfl⟩
  have hst := (HH.out.quietly HQ0.out).setHeap (id := t.id) HF.out HL.out.only HL.out.pool (HL.out.heap.mono (fun k x => by rcases x with x | x; exact Or.inl x; exact Or.inr x.1))
  rw [ho1] at hst
  have HST := Lib.hid hst
  have HO1 : Hid ((∀ k, k < wb.heap.size -> o1 k = o k) /\ o1 pt = 10 + 2 * t.id) := ⟨fun k hk => by rw [<- ho1]; exact grow_old hk, by rw [<- ho1]; exact grow_new HL.out.new (lt_of_get HL.out.box)⟩
  have z0 := cell_of HL.out.box 0
  have z1 := cell_of HL.out.box 1
  simp only [zGA, zGS, zGZ] at z0 z1
  clear z0 z1 hst ho1
  go_wp2_with fail
  refine zH HS4 ((Only.refl _ _).drew) (fun hHeld => ?_)
  simp only [List.size_toArray, List.length_cons, List.length_nil, Nat.reduceAdd]
  have q6 : Quiet W W.drew := (Only.refl _ _).drew
  generalize W.drew = d6 at q6 hHeld ⊢
  refine zT 0 ?_
  refine zT 1 ?_
  refine zT 2 ?_
  refine zT 3 ?_
  refine zT 4 ?_
  refine zT 5 ?_
  refine zT 6 ?_
  refine zT 7 ?_
  refine zT 8 ?_
  refine zT 9 ?_
  refine zT 12 ?_
  refine zR 10 ?_
  intro K hK
  go_simp
  go_at_call 61
  refine (HKEEP.out _ q6).mono ?_
  rintro e d7 ⟨vk, rfl, hkw⟩
  obtain ⟨Ak, ck, rfl, hck, hmk, hrk⟩ := own_form hkw.own
  have q7 := q6.trans hkw.quiet
  dsimp only
  refine hK.out _ _ ?_ (fun hHeld => ?_)
  ·exact HS4.out _ q7
  clear hK K
  (try simp only [Act.put, zPA, zPZ, zPS])
  refine zT 11 ?_
  refine wpAnyH_done (by kernel_rfl) ?_ _
  obtain ⟨kl, hkl⟩ : ∃ kl, keptI s.L t.id s.I = kl := ⟨_, rfl⟩
  rw [hkl] at hkw hck hrk
  rw [hkl]
  obtain ⟨m, hm⟩ : ∃ m, kl.length = m := ⟨_, rfl⟩
  rw [hm] at hck hrk
  rw [hm]
  have HKL := Lib.hid hkl
  have HM := Lib.hid hm
  have hm2 : m <= 1000 := by
   rw [<- hm, <- hkl]
   exact Nat.le_trans (List.length_filter_le _ _) HI.out
  have HQ7 : Hid (Quiet W d7) := q7
  have HNK : Hid (∀ k, (Value.slice Ak m ck).ownBlock = some k -> W.heap.size <= k) := fun k e => by
   have := hkw.new k (by rw [hm]; exact e)
   have := q6.size
   omega
  have HRK := Lib.hid hrk
  have HRD7 := Lib.hid (HST.out.quietly q7)
  have B4 := HQ7.out.get (HL.out.only.get HB4.out (fun x => by have := HBIG.out r4 HR6.out.2.1; have := HPB.out; have := HR6.out; rcases x with x | x <;> omega)) (fun x => x)
  have B5 := HQ7.out.get (HL.out.only.get HB5.out (fun x => by have := HBIG.out r5 HR6.out.2.2; have := HPB.out; have := HR6.out; rcases x with x | x <;> omega)) (fun x => x)
  have B6 := HQ7.out.get (HL.out.only.get HB6.out (fun x => by have := HBIG.out r6 HR6.out.1; have := HPB.out; have := HR6.out; rcases x with x | x <;> omega)) (fun x => x)
  have BP := HQ7.out.get HL.out.box (fun x => x)
  have O4 : o1 r4 = 0 := by rw [HO1.out.1 r4 (lt_of_get HB4.out)]; exact HBIG.out r4 HR6.out.2.1
  have O5 : o1 r5 = 0 := by rw [HO1.out.1 r5 (lt_of_get HB5.out)]; exact HBIG.out r5 HR6.out.2.2
  have O6 : o1 r6 = 0 := by rw [HO1.out.1 r6 (lt_of_get HB6.out)]; exact HBIG.out r6 HR6.out.1
  have HB := Lib.hid (And.intro B4 (And.intro B5 (And.intro B6 BP)))
  have HO := Lib.hid (And.intro O4 (And.intro O5 O6))
  have HCRW : Hid (Rd d7 (fun k => o1 k = 0) 2 A2 t.cols.length (colsV t.cols) /\ Rd d7 (fun k => o1 k = 0) 1 A 9 (bytesV (rowI n))) := by
   have g1 : ∀ k, o k = 0 /\ k < w.heap.size -> o1 k = 0 := fun k hk => by rw [HO1.out.1 k (Nat.lt_of_lt_of_le hk.2 HQ0.out.size)]; exact hk.1
   have g2 : ∀ (size : Nat) (A : Option Addr) (l : Nat) (xs : List Value), Rd w (fun k => o k = 0) size A l xs -> Rd d7 (fun k => o1 k = 0) size A l xs := fun size A l xs h => by
    refine (((rd_limS h).kept HOW.out (fun k hk x => by have := HBW.out k x; have := hk.1; omega)).kept HQ7.out (fun _ _ x => x)).mono g1
   exact ⟨g2 _ _ _ _ (HCR.out.mono HSC.out), g2 _ _ _ _ (HD.out.mono HSD.out)⟩
  have hcol : t.cols.length = 1 := by rw [HCC.out.1]; rfl
  clear hkw hck hmk hrk q6 q7 hHeld hkl hm B4 B5 B6 BP O4 O5 O6 HS4 HKEEP hcol
  go_wp2_with fail
  go_loopw [40, 11] (fun i _ wr => ∃ (k : Nat) (o' : Nat -> Nat), k <= m /\ i = .int .i64 (k : Int) /\ StoreRow wr sb o' { s with left := left', hs := upd s.hs t.id (some H'), ts := putTs ⟨keyI n, p, q⟩ s.ts (kl.take k) } lb bb pb mh mt ms fh ft fs /\ (∀ j, j < d7.heap.size -> o' j = o1 j) /\ Only (fun j => ∃ i, o1 j = 11 + 2 * i) d7 wr) (fun i _ _ => m - (intOf i).toNat)
  case atStart => exact ⟨0, o1, Nat.zero_le _, rfl, HRD7.out, fun _ _ => rfl, Only.refl _ _⟩
  case round =>
   obtain ⟨k, o', hk, rfl, hR, hO', hT⟩ := hrel
   have HR := Lib.hid hR
   have HO' := Lib.hid hO'
   have HT := Lib.hid hT
   clear hR hO' hT
   by_cases hlt : k < m
   ·obtain ⟨x, hx⟩ : ∃ x, kl[k]? = some x := ⟨_, List.getElem?_eq_getElem (by have := HM.out; omega)⟩
    have hxm : x ∈ keptI s.L t.id s.I := by rw [HKL.out]; exact List.mem_of_getElem? hx
    obtain ⟨hx0, hxu, es, hes, hel⟩ := HKX.out.1 x hxm
    have hts : putTs ⟨keyI n, p, q⟩ s.ts (kl.take k) x.id = some es := by
     have hnd := HKX.out.2
     rw [HKL.out] at hnd
     rw [putTs_other (nodup_at hnd hx)]
     exact hes
    obtain ⟨tb, hft, htr⟩ := HR.out.trees.2 x.id es hts
    have hrk := HRK.out.kept HT.out (fun j hj hx => by
      obtain ⟨i, hi⟩ := hx
      have := HST.out.big j (HNK.out j hj)
      omega)
    obtain ⟨bk, ofk, rfl, _, hck⟩ := hrk.cells (by rw [idxV_length]; have := HM.out; omega)
    obtain ⟨i0, i1, i2, i3, i4, i5⟩ := idxV_get kl k x hx
    have y0 := hck _ _ i0
    have y1 := hck _ _ i1
    have y2 := hck _ _ i2
    have y3 := hck _ _ i3
    have y4 := hck _ _ i4
    have y5 := hck _ _ i5
    rw [<- Nat.add_assoc] at y1 y2 y3 y4 y5
    have ly := cell_lt y0
    dsimp only at ly
    have HX := Lib.hid hx
    have HXU := Lib.hid hxu
    have HTS := Lib.hid hts
    have HFT := Lib.hid hft
    have HTR := Lib.hid htr
    have HEL := Lib.hid hel
    have HX0 := Lib.hid hx0
    rw [hx0] at y3
    have y3' : wr.cell? ⟨bk, ofk + k * 6 + 3, none⟩ = some (.int .i64 0) := y3
    have hqx : Quiet wr (wr.alloc (.cells #[.int .u64 (x.id : Int), .string x.name, .int .u64 (x.table : Int), .int .i64 0, .int .u64 (x.xmin : Int), .int .u64 (x.xmax : Int)] 111)) := (Only.refl _ _).alloc _
    have hxb := alloc_new wr (.cells #[.int .u64 (x.id : Int), .string x.name, .int .u64 (x.table : Int), .int .i64 0, .int .u64 (x.xmin : Int), .int .u64 (x.xmax : Int)] 111)
    have HZX := Lib.hid (HR.out.big wr.heap.size (Nat.le_refl _))
    obtain ⟨xb, hxb_⟩ : ∃ xb, wr.heap.size = xb := ⟨_, rfl⟩
    rw [hxb_] at hxb HZX
    have HXE := Lib.hid hxb_
    clear hx hxu hes hel hts hft htr hrk hck i0 i1 i2 i3 i4 i5 y3 hxm hx0 hxb_
    go_wp2_with fail
    rw [HXE.out]
    generalize wr.alloc (.cells #[.int .u64 (x.id : Int), .string x.name, .int .u64 (x.table : Int), .int .i64 0, .int .u64 (x.xmin : Int), .int .u64 (x.xmax : Int)] 111) = wx at *
    have HXB := Lib.hid hxb
    have HQX := Lib.hid hqx
    have HTX : Hid (Only (fun j => ∃ i, o1 j = 11 + 2 * i) d7 wx) := HT.out.trans' hqx (fun _ _ x => x.elim)
    have HRX := Lib.hid (HR.out.quietly hqx)
    clear y0 y1 y2 y3' y4 y5 ly hxb hqx
    have HS7 : Hid (∀ W', Only (fun k => ∃ i, o' k = 11 + 2 * i) wx W' -> (fun w' => w'.cell? ⟨sb, 4, none⟩ = some (.map (some mt)) /\ w'.cell? ⟨xb, 0, none⟩ = some (.int .u64 (x.id : Int)) /\ w'.cell? ⟨xb, 3, none⟩ = some (.int .i64 (0 : Int)) /\ w'.cell? ⟨r4, 0, none⟩ = some (.int .u64 (t.id : Int)) /\ w'.cell? ⟨r4, 1, none⟩ = some (.string t.name) /\ w'.cell? ⟨r4, 2, none⟩ = some (.slice A2 t.cols.length c2) /\ w'.cell? ⟨r4, 3, none⟩ = some (.int .u64 (t.xmin : Int)) /\ w'.cell? ⟨r4, 4, none⟩ = some (.int .u64 (t.xmax : Int)) /\ w'.cell? ⟨r5, 0, none⟩ = some (.int .u64 v.row) /\ w'.cell? ⟨r5, 1, none⟩ = some (.int .u64 v.xmin) /\ w'.cell? ⟨r5, 2, none⟩ = some (.int .u64 v.xmax) /\ w'.cell? ⟨r5, 3, none⟩ = some (.int .i64 v.pg) /\ w'.cell? ⟨r5, 4, none⟩ = some (.int .i64 v.sl) /\ w'.cell? ⟨r5, 5, none⟩ = some (.slice A v.data.length cd) /\ w'.cell? ⟨pt, 0, none⟩ = some (.int .i64 p) /\ w'.cell? ⟨pt, 1, none⟩ = some (.int .i64 q) /\ (Instr.lookup 64 (.map (some mt)) (.int .u64 (x.id : Int)) false).run Tryz.prog w' = .ok (ptrV tb) w') W') := fun W' ho => by
     have tg := HRX.out.tags
     have c4 := ho.cell HRX.out.cells.2.2.2.2.1 (fun e => by obtain ⟨i, hi⟩ := e; (try dsimp only at hi); omega)
     have bx := ho.get HXB.out (fun e => by obtain ⟨i, hi⟩ := e; (try dsimp only at hi); have := HZX.out; omega)
     have nd : ∀ r, r < d7.heap.size -> (∀ i, o1 r ≠ 11 + 2 * i) -> ¬ (∃ i, o' r = 11 + 2 * i) := fun r hr hn e => by
      obtain ⟨i, hi⟩ := e
      rw [HO'.out r hr] at hi
      exact hn i hi
     have b4 := tabBox_cells (ho.get (HTX.out.get HB.out.1 (fun e => by obtain ⟨i, hi⟩ := e; have := HO.out.1; omega)) (nd r4 (lt_of_get HB.out.1) (fun i hi => by have := HO.out.1; omega)))
     have b5 := ho.get (HTX.out.get HB.out.2.1 (fun e => by obtain ⟨i, hi⟩ := e; have := HO.out.2.1; omega)) (nd r5 (lt_of_get HB.out.2.1) (fun i hi => by have := HO.out.2.1; omega))
     have bp := ho.get (HTX.out.get HB.out.2.2.2 (fun e => by obtain ⟨i, hi⟩ := e; have := HO1.out.2; omega)) (nd pt (lt_of_get HB.out.2.2.2) (fun i hi => by have := HO1.out.2; omega))
     have hmt := HRX.out.mT.kept ho (fun e => by obtain ⟨i, hi⟩ := e; omega)
     exact ⟨c4, by rw [cell_of bx]; rfl, by rw [cell_of bx]; rfl, b4.1, b4.2.1, b4.2.2.1, b4.2.2.2.1, b4.2.2.2.2, by rw [cell_of b5]; rfl, by rw [cell_of b5]; rfl, by rw [cell_of b5]; rfl, by rw [cell_of b5]; rfl, by rw [cell_of b5]; rfl, by rw [cell_of b5]; rfl, by rw [cell_of bp]; rfl, by rw [cell_of bp]; rfl, look_tree hmt HFT.out HXU.out⟩
    have HKEY : Hid (∀ W', Quiet wx W' -> Calls Tryz.prog 47 #[.agg #[.int .u64 (t.id : Int), .string t.name, .slice A2 t.cols.length c2, .int .u64 (t.xmin : Int), .int .u64 (t.xmax : Int)], .agg #[.int .u64 v.row, .int .u64 v.xmin, .int .u64 v.xmax, .int .i64 v.pg, .int .i64 v.sl, .slice A v.data.length cd], .int .i64 0] W' (FreshPost W' (keyI n))) := fun W' hq => by
     have g := HTX.out.trans' hq (fun _ _ x => x.elim)
     exact store_key (v := v) HCC.out.1 (HCRW.out.1.kept g (fun k hk e => by obtain ⟨i, hi⟩ := e; omega)) HCC.out.2.1 HCC.out.2.2 HN.out HDAT.out (HCRW.out.2.kept g (fun k hk e => by obtain ⟨i, hi⟩ := e; omega)) HCD.out.1 HCD.out.2
    have HTIN : Hid (∀ W', Quiet wx W' -> ∀ A9 c9 (S9 : Nat -> Prop), Rd W' S9 1 A9 (keyI n).length (bytesV (keyI n)) -> Calls Tryz.prog 46 #[ptrV tb, .agg #[.slice A9 (keyI n).length c9, .int .i64 p, .int .i64 q]] W' (fun e w' => (∃ z : Int, e = .returned (.int .i64 z)) /\ Only (fun k => o' k = 11 + 2 * x.id) W' w' /\ TreeIs w' (fun k => o' k = 11 + 2 * x.id ∨ W'.heap.size <= k) tb (putE ⟨keyI n, p, q⟩ es))) := fun W' hq A9 c9 S9 hr => by
     refine (tree_insert W' (fun k => o' k = 11 + 2 * x.id) tb es ⟨keyI n, p, q⟩ A9 c9 S9 ((HTR.out.kept HQX.out (fun _ _ x => x)).kept hq (fun _ _ x => x)) hr (keyI_bytes HN.out) (by show (keyI n).length <= 600; rw [keyI_length]; omega) HEL.out).mono ?_
     intro e w' hp
     unfold putE
     rcases hp with ⟨h1, h2, h3, h4⟩ | ⟨h1, h2, h3, h4⟩
     ·rw [if_pos h1]; exact ⟨⟨_, h2⟩, h3, h4⟩
     ·rw [if_neg h1]; exact ⟨⟨_, h2⟩, h3, h4⟩
    refine zH HS7 ((Only.refl _ _).drew) (fun hHeld => ?_)
    simp only [List.size_toArray, List.length_cons, List.length_nil, Nat.reduceAdd]
    have q8 : Quiet wx wx.drew := (Only.refl _ _).drew
    generalize wx.drew = d8 at q8 hHeld ⊢
    refine zT 0 ?_
    refine zT 1 ?_
    refine zT 2 ?_
    refine zT 3 ?_
    refine zT 4 ?_
    refine zT 5 ?_
    refine zT 6 ?_
    refine zT 7 ?_
    refine zT 8 ?_
    refine zT 9 ?_
    refine zT 10 ?_
    refine zT 12 ?_
    refine zR 11 ?_
    intro K hK
    go_simp
    go_at_call 47
    refine (HKEY.out _ q8).mono ?_
    rintro e d9 ⟨v9, rfl, hf9⟩
    obtain ⟨A9, c9, rfl, hc9, hm9, hrd9⟩ := own_form hf9.own
    have q9 := q8.trans hf9.quiet
    dsimp only
    refine hK.out _ _ ?_ (fun hHeld => ?_)
    ·exact HS7.out _ (q9.mono (fun _ _ x => x.elim))
    clear hK K
    (try simp only [Act.put, zPA, zPZ, zPS])
    refine zT 13 ?_
    refine zR 14 ?_
    intro K hK
    go_simp
    go_at_call 46
    refine (HTIN.out _ q9 A9 c9 _ (by exact hrd9)).mono ?_
    rintro e d10 ⟨⟨ze, rfl⟩, ho10, ht10⟩
    dsimp only
    refine hK.out _ _ ?_ (fun hHeld => ?_)
    ·exact HS7.out _ ((q9.mono (T := fun k => ∃ i, o' k = 11 + 2 * i) (fun _ _ x => x.elim)).trans (ho10.mono (fun k _ hh => ⟨x.id, hh⟩)))
    clear hK K
    (try simp only [Act.put, zPA, zPZ, zPS])
    refine wpAnyH_done (by kernel_rfl) ?_ _
    have HN9 : Hid (StoreRow d10 sb (grow o' d9.heap.size d10.heap.size (11 + 2 * x.id)) { s with left := left', hs := upd s.hs t.id (some H'), ts := putTs ⟨keyI n, p, q⟩ s.ts (kl.take (k + 1)) } lb bb pb mh mt ms fh ft fs) := by
     have h1 := (HRX.out.quietly q9).setTree HFT.out ho10 ht10
     have e1 : putTs ⟨keyI n, p, q⟩ s.ts (kl.take (k + 1)) = upd (putTs ⟨keyI n, p, q⟩ s.ts (kl.take k)) x.id (some (putE ⟨keyI n, p, q⟩ es)) := by
      rw [List.take_add_one, HX.out, Option.toList_some, putTs_snoc, HTS.out]
      rfl
     show StoreRow d10 sb _ _ lb bb pb mh mt ms fh ft fs
     rw [e1]
     exact h1
    have hz9 := q9.size
    have hzx := HQX.out.size
    have hzr := HT.out.size
    have HOO : Hid (∀ j, j < d7.heap.size -> grow o' d9.heap.size d10.heap.size (11 + 2 * x.id) j = o1 j) := fun j hj => by
     rw [grow_old (by omega)]
     exact HO'.out j hj
    have HTT : Hid (Only (fun j => ∃ i, o1 j = 11 + 2 * i) d7 d10) := (HTX.out.trans' q9 (fun _ _ x => x.elim)).trans' ho10 (fun j hj e => ⟨x.id, by rw [<- HO'.out j hj]; exact e⟩)
    clear hHeld q8 q9 ho10 ht10 hf9 hc9 hm9 hrd9 HS7 HKEY HTIN hz9 hzx hzr
    go_wp2
    go_roundw
    case rel => exact ⟨k + 1, _, by omega, by go_num, HN9.out, HOO.out, HTT.out⟩
    case measure => simp [intOf]; omega
   ·obtain rfl : m = k := by omega
    have bp := HT.out.get HB.out.2.2.2 (fun e => by obtain ⟨i, hi⟩ := e; have := HO1.out.2; omega)
    have b6 := HT.out.get HB.out.2.2.1 (fun e => by obtain ⟨i, hi⟩ := e; have := HO.out.2.2; omega)
    have z0 := cell_of bp 0
    have z1 := cell_of bp 1
    have y0 := cell_of b6 0
    have y1 := cell_of b6 1
    have yf := fun o => frozen_of b6 o
    simp only [zGA, zGS, zGZ] at z0 z1 y0 y1
    have hlp := lt_of_get bp
    have hlr := lt_of_get b6
    have hnr : pt ≠ r6 := fun e => by have := HL.out.new; have := lt_of_get HB6.out; omega
    have HX : Hid (((wr.setCell ⟨r6, 0, none⟩ (.int .i64 p)).setCell ⟨r6, 1, none⟩ (.int .i64 q)).heap[r6]? = some (.cells #[.int .i64 p, .int .i64 q] 43 (0, 0))) := two_set b6 _ _
    have HPO : Hid (PutPost w sb o (putSx s t.id H' left' ⟨keyI n, p, q⟩) p q (.returned (.tuple #[.agg #[.int .i64 p, .int .i64 q], .int .i64 0])) ((wr.setCell ⟨r6, 0, none⟩ (.int .i64 p)).setCell ⟨r6, 1, none⟩ (.int .i64 q))) := by
     have h2 := two_only wr r6 (.int .i64 p) (.int .i64 q)
     have hl6 := lt_of_get HB6.out
     have hzw := HL.out.only.size
     have hz7 := HQ7.out.size
     have o6 : o' r6 = 0 := by rw [HO'.out r6 (by omega)]; exact HO.out.2.2
     have hst := HR.out.kept h2 (fun k e => by rw [e]; exact o6)
     rw [List.take_of_length_le (by have := HM.out; omega), <- HKL.out] at hst
     have hz0 := HQ0.out.size
     refine ⟨rfl, o', fun k hk => ?_, ?_, _, _, _, _, _, _, _, _, _, hst⟩
     ·rw [HO'.out k (by omega)]
      exact HO1.out.1 k (by omega)
     ·refine ((((HOW.out.mono (T := fun k => o k ≠ 0) (fun k _ x => by have := HBW.out k x; omega)).trans' HQ7.out (fun _ _ x => x.elim)).trans' HT.out (fun k hk e => ?_)).trans' h2 (fun k hk e => by have := HR6.out.1; omega))
      obtain ⟨i, hi⟩ := e
      rw [HO1.out.1 k (by omega)] at hi
      omega
    clear bp b6
    go_wp2
    exact bodyPost_ret (results_cell_tmp Tryz.results30 _ _ r6 _ _ (0, 0) _ (by rfl) HX.out Tryz.underlying43 rfl info_tid) (by rfl) HPO.out
structure KeptOk (s : St) (id : Nat) : Prop where
 few : s.I.length <= 1000
 each : ∀ e ∈ keptI s.L id s.I, e.column = 0 /\ U64 e.id /\ ∃ es, s.ts e.id = some es /\ es.length <= 10000
 nd : ((keptI s.L id s.I).map (fun e => e.id)).Nodup
theorem store_insertX {w : World} {sb x i c3 n left' : Nat} {o : Nat -> Nat} {s : St} {y : Snap} {t : TE} {name nm : ByteArray} {Sv : Nat -> Prop} {A3 : Option Addr} {H H' : List (List (Option Tup))} {p q : Int} (h : StoreAt w sb o s) (hx : U64 x) (hy : s.sn x = some y) (hf : findT s.L y name s.T = some i) (ht : s.T[i]? = some t) (hc : t.cols = [(nm, 1)]) (hid : U64 t.id)
  (hk : KeptOk s t.id) (hH : s.hs t.id = some H) (hle : H.length + s.left <= 256) (hn : n < 256) (hv : Rd w Sv 4 A3 1 (intRow n)) (hc3 : 1 <= c3) (hm3 : c3 <= maxLen) (hlast : s.last + 1 < 18446744073709551616) (hins : hIns H s.left ⟨s.last + 1, x, 0, -1, -1, rowI n⟩ = ((p, q, 0), H', left')) :
  Calls Tryz.prog 10 #[ptrV sb, .int .u64 (x : Int), .string name, .slice A3 1 c3] w (StoreInsPost w sb o { putSx s t.id H' left' ⟨keyI n, p, q⟩ with last := s.last + 1 }) :=
 store_insert_of (s1 := putSx s t.id H' left' ⟨keyI n, p, q⟩) h hx hy hf ht hc hn hv hc3 hm3 hlast rfl (fun W A2 c2 A5 c5 hq hr2 h2 m2 hd h9 m9 =>
   store_put (v := ⟨s.last + 1, x, 0, -1, -1, rowI n⟩) (cd := c5) (A2 := A2) (c2 := c2) (h.quietly hq) hk.few hid hH hle hc hr2 (fun k e => h.big k e) h2 m2 hn rfl h9 m9 hd (fun k e => h.big k e) hins hk.each hk.nd)
theorem store_updateX {w : World} {sb x i c3 n left' nr cr code : Nat} {o : Nat -> Nat} {s : St} {y : Snap} {t : TE} {name nm : ByteArray} {Sv : Nat -> Prop} {A3 Ar : Option Addr} {H H1 H2 : List (List (Option Tup))} {p q pg sl z : Int} {v : Tup} (h : StoreAt w sb o s) (hx : U64 x) (hy : s.sn x = some y) (hf : findT s.L y name s.T = some i) (ht : s.T[i]? = some t) (hc : t.cols = [(nm, 1)]) (hid : U64 t.id)
  (hk : KeptOk s t.id) (hH : s.hs t.id = some H) (hle : H.length + s.left <= 256) (hn : n < 256) (hv : Rd w Sv 4 A3 1 (intRow n)) (hc3 : 1 <= c3) (hm3 : c3 <= maxLen) (hg : hGet H pg sl = some v) (hx1 : U64 v.xmin) (hx2 : U64 v.xmax) (hcode : freeS s.L y v.xmin v.xmax = code)
  (hins : code = 0 -> hIns H s.left ⟨v.row, x, 0, -1, -1, rowI n⟩ = ((p, q, 0), H1, left')) (hst : hStamp H1 pg sl x p q = (z, H2)) :
  Calls Tryz.prog 14 #[ptrV sb, .int .u64 (x : Int), .string name, .agg #[.int .u64 v.row, .int .i64 pg, .int .i64 sl, .slice Ar nr cr], .slice A3 1 c3] w (UpdPost w sb o s (putSx s t.id H2 left' ⟨keyI n, p, q⟩) code z) := by
 have e1 : ({ putSx s t.id H1 left' ⟨keyI n, p, q⟩ with hs := upd (putSx s t.id H1 left' ⟨keyI n, p, q⟩).hs t.id (some H2) } : St) = putSx s t.id H2 left' ⟨keyI n, p, q⟩ := by
  simp only [putSx, upd_upd]
 rw [<- e1]
 exact store_update_of (s1 := putSx s t.id H1 left' ⟨keyI n, p, q⟩) h hx hy hf ht hc hid hH hn hv hc3 hm3 hg hx1 hx2 hcode (by simp [putSx, upd]) hst (fun hz W A2 c2 A5 c5 hq hr2 h2 m2 hd h9 m9 =>
   store_put (v := ⟨v.row, x, 0, -1, -1, rowI n⟩) (cd := c5) (A2 := A2) (c2 := c2) (h.quietly hq) hk.few hid hH hle hc hr2 (fun k e => h.big k e) h2 m2 hn rfl h9 m9 hd (fun k e => h.big k e) (hins hz) hk.each hk.nd)
section
variable {w0 w : World} {sb : Nat} {K : Nat -> Prop} {s : St}
theorem law_insertX {x i c3 n left' : Nat} {y : Snap} {t : TE} {name nm : ByteArray} {Sv : Nat -> Prop} {A3 : Option Addr} {H H' : List (List (Option Tup))} {p q : Int} (h : LawSt w0 w sb K s) (hx : U64 x) (hy : s.sn x = some y) (hf : findT s.L y name s.T = some i) (ht : s.T[i]? = some t) (hc : t.cols = [(nm, 1)]) (hid : U64 t.id)
  (hk : KeptOk s t.id) (hH : s.hs t.id = some H) (hle : H.length + s.left <= 256) (hn : n < 256) (hv : Rd w Sv 4 A3 1 (intRow n)) (hc3 : 1 <= c3) (hm3 : c3 <= maxLen) (hlast : s.last + 1 < 18446744073709551616) (hins : hIns H s.left ⟨s.last + 1, x, 0, -1, -1, rowI n⟩ = ((p, q, 0), H', left')) :
  Calls Tryz.prog 10 #[ptrV sb, .int .u64 (x : Int), .string name, .slice A3 1 c3] w fun e w' => e = .returned (.int .i64 0) /\ LawTo w0 w sb K { putSx s t.id H' left' ⟨keyI n, p, q⟩ with last := s.last + 1 } w' := by
 obtain ⟨o, h1, h2, h3, h4⟩ := h
 refine (store_insertX h1 hx hy hf ht hc hid hk hH hle hn hv hc3 hm3 hlast hins).mono ?_
 rintro e w' ⟨rfl, hst⟩
 exact ⟨rfl, law_step h1 h2 h3 h4 hst⟩
theorem law_updateX {x i c3 n left' nr cr code : Nat} {y : Snap} {t : TE} {name nm : ByteArray} {Sv : Nat -> Prop} {A3 Ar : Option Addr} {H H1 H2 : List (List (Option Tup))} {p q pg sl z : Int} {v : Tup} (h : LawSt w0 w sb K s) (hx : U64 x) (hy : s.sn x = some y) (hf : findT s.L y name s.T = some i) (ht : s.T[i]? = some t) (hc : t.cols = [(nm, 1)]) (hid : U64 t.id)
  (hk : KeptOk s t.id) (hH : s.hs t.id = some H) (hle : H.length + s.left <= 256) (hn : n < 256) (hv : Rd w Sv 4 A3 1 (intRow n)) (hc3 : 1 <= c3) (hm3 : c3 <= maxLen) (hg : hGet H pg sl = some v) (hx1 : U64 v.xmin) (hx2 : U64 v.xmax) (hcode : freeS s.L y v.xmin v.xmax = code)
  (hins : code = 0 -> hIns H s.left ⟨v.row, x, 0, -1, -1, rowI n⟩ = ((p, q, 0), H1, left')) (hst : hStamp H1 pg sl x p q = (z, H2)) :
  Calls Tryz.prog 14 #[ptrV sb, .int .u64 (x : Int), .string name, .agg #[.int .u64 v.row, .int .i64 pg, .int .i64 sl, .slice Ar nr cr], .slice A3 1 c3] w fun e w' => if code = 0 then e = .returned (.int .i64 z) /\ LawTo w0 w sb K (putSx s t.id H2 left' ⟨keyI n, p, q⟩) w' else e = .returned (.int .i64 (code : Int)) /\ LawTo w0 w sb K s w' := by
 obtain ⟨o, h1, h2, h3, h4⟩ := h
 refine (store_updateX h1 hx hy hf ht hc hid hk hH hle hn hv hc3 hm3 hg hx1 hx2 hcode hins hst).mono ?_
 intro e w' hp
 unfold UpdPost at hp
 split at hp
 ·rename_i hz
  rw [if_pos hz]
  exact ⟨hp.1, law_step h1 h2 h3 h4 hp.2⟩
 ·rename_i hz
  rw [if_neg hz]
  exact ⟨hp.1, law_step h1 h2 h3 h4 hp.2⟩
end
section
variable {w0 w : World} {sb : Nat} {K : Nat -> Prop} {s : St}
end
def idxA : IE := ⟨2, ⟨#[105]⟩, 1, 0, 1, 0⟩
def tsE : Option (List Ent) -> Nat -> Option (List Ent)
 | none => fun _ => none
 | some es => upd (fun _ => none) 2 (some es)
def ixE : Option (List Ent) -> List IE
 | none => []
 | some _ => [idxA]
def blE : Option (List Ent) -> Nat
 | none => 1
 | some _ => 2
def stE (H : List (List (Option Tup))) (left last : Nat) (oi : Option (List Ent)) : St := ⟨[1], [tabA], ixE oi, blE oi, left, upd (fun _ => none) 1 (some H), tsE oi, upd (fun _ => none) 1 (some (takeS [1] 1)), last⟩
section
variable {H H' : List (List (Option Tup))} {left left' last i c : Nat} {oi : Option (List Ent)} {ent : Ent} {s : St}
theorem stE_put : putSx (stE H left last oi) tabA.id H' left' ent = stE H' left' last (oi.map (putE ent)) := by
 cases oi with
 | none =>
  show putSx (stE H left last none) 1 H' left' ent = _
  simp only [putSx, stE, upd_upd]
  rfl
 | some es =>
  show putSx (stE H left last (some es)) 1 H' left' ent = _
  have e1 : keptI (stE H left last (some es)).L 1 (stE H left last (some es)).I = [idxA] := rfl
  unfold putSx
  rw [e1]
  have e2 : putTs ent (stE H left last (some es)).ts [idxA] = upd (fun _ => none) 2 (some (putE ent es)) := by
   show upd (upd (fun _ => none) 2 (some es)) 2 (some (putE ent es)) = _
   rw [upd_upd]
  rw [e2]
  simp only [stE, upd_upd]
  rfl
theorem stE_kept (he : ∀ es, oi = some es -> es.length <= 10000) : KeptOk (stE H left last oi) tabA.id := by
 cases oi with
 | none => exact ⟨by show 0 <= 1000; omega, (fun e he' => by cases he'), List.nodup_nil⟩
 | some es =>
  have e1 : keptI (stE H left last (some es)).L tabA.id (stE H left last (some es)).I = [idxA] := rfl
  refine ⟨by show 1 <= 1000; omega, fun e h => ?_, by rw [e1]; simp⟩
  rw [e1, List.mem_singleton] at h
  subst h
  exact ⟨rfl, (by unfold U64; decide), es, rfl, he es rfl⟩
variable {w0 w : World} {sb : Nat} {K : Nat -> Prop}
theorem ent_found : findT [1] (takeS [1] 1) ⟨#[116]⟩ [tabA] = some 0 := tabA_found (by decide)
end
theorem ent_rev {α : Type _} {P : List α -> Prop} (h0 : P []) (h1 : ∀ l a, P l -> P (l ++ [a])) (l : List α) : P l := by
 have h : ∀ m : List α, P m.reverse := fun m => by
  induction m with
  | nil => exact h0
  | cons a m ih => rw [List.reverse_cons]; exact h1 _ _ ih
 have := h l.reverse
 rw [List.reverse_reverse] at this
 exact this
def buildE (H : List (List (Option Tup))) (L : List Nat) (hz : Nat) (l : List (Int × Int)) : List Ent :=
 l.foldl (fun es a => match hGet H a.1 a.2 with | some v => if deadS L v.xmin v.xmax hz then es else putE ⟨keyI (numOf v.data), a.1, a.2⟩ es | none => es) []
theorem buildE_snoc (H : List (List (Option Tup))) (L : List Nat) (hz : Nat) (l : List (Int × Int)) (a : Int × Int) : buildE H L hz (l ++ [a]) = match hGet H a.1 a.2 with | some v => if deadS L v.xmin v.xmax hz then buildE H L hz l else putE ⟨keyI (numOf v.data), a.1, a.2⟩ (buildE H L hz l) | none => buildE H L hz l := by
 unfold buildE
 rw [List.foldl_append]
 rfl
theorem buildE_len (H : List (List (Option Tup))) (L : List Nat) (hz : Nat) (l : List (Int × Int)) : (buildE H L hz l).length <= l.length := by
 refine ent_rev (P := fun l => (buildE H L hz l).length <= l.length) ?_ ?_ l
 ·exact Nat.le_refl _
 ·intro l a ih
  rw [buildE_snoc, List.length_append]
  show _ <= l.length + 1
  split
  ·split
   ·omega
   ·unfold putE
    split
    ·omega
    ·rw [insE_length]; omega
  ·omega
end Go.Proofs.YthipgglplneijaaGreatDoor
namespace Go.Lap
open Go.RowKit Go.Maps Go.MapKept Go.WideElems
def heldR (v : Value) : Option (DataW Value × List MemPlace) := some (.held v, [])
def keyN (x : MapEntry) : Nat := match x.key with | .int _ z => z.toNat | _ => 0
theorem keyN_of {x : MapEntry} {j : Nat} (h : x.key = .int .u64 (j : Int)) : keyN x = j := by
 unfold keyN
 rw [h]
 simp
theorem nodup_bound {l : List Nat} {N : Nat} (h : l.Nodup) (hb : ∀ x ∈ l, x <= N) : l.length <= N + 1 := by
 have := h.length_le_of_subset (l₂ := List.range (N + 1)) (fun x hx => List.mem_range.2 (Nat.lt_succ_of_le (hb x hx)))
 simpa using this
section
variable {P : Program} {k : TypeId} {w : World} {b : Nat} {f : Nat -> Option Value}
theorem MapF.owns (h : MapF w b f) (hk : P.underlying k = some (.int .u64)) {N : Nat} (hN : ∀ x v, f x = some v -> x <= N) (hm : N + 1 <= maxLen) :
  ∃ D : DataW Value, w.ownsMap P k heldR b (N + 1) D /\ Maps.size D <= N + 1 /\ (∀ kl, Maps.has D kl = true -> ∃ (x : Nat) (v : Value), kl = .int .u64 (x : Int) /\ f x = some v /\ ∀ z, D.atKey kl z = .held v) /\ ∀ x v, f x = some v -> Maps.has D (.int .u64 (x : Int)) = true := by
 obtain ⟨es, clock, h1, h2, h3, h4⟩ := h
 have hrd : ∀ x ∈ es.toList, ∃ (j : Nat), rd P k heldR x = some (.int .u64 (j : Int), .held x.val) /\ f j = some x.val /\ x.key = .int .u64 (j : Int) := fun x hx => by
  obtain ⟨j, hj, e1, e2⟩ := h3 x hx
  refine ⟨j, ?_, e2, e1⟩
  unfold rd
  rw [e1, keyOf_int_mk hk (wf_u64 hj)]
  rfl
 have hsz : es.size <= N + 1 := by
  have hnd := h2.2.2
  have hl : ∀ (l : List MapEntry), (∀ x ∈ l, ∃ j : Nat, j <= N /\ x.key = .int .u64 (j : Int)) -> (l.map (·.key)).Nodup -> l.length <= N + 1 := by
   intro l hall hn
   have hex : ∃ m : MapEntry -> Nat, ∀ x ∈ l, m x <= N /\ x.key = .int .u64 ((m x : Nat) : Int) := ⟨keyN, fun x hx => by
     obtain ⟨j, hj, e⟩ := hall x hx
     rw [keyN_of e]
     exact ⟨hj, e⟩⟩
   obtain ⟨m, hm⟩ := hex
   have : (l.map m).Nodup := by
    rw [List.Nodup, List.pairwise_map] at hn ⊢
    refine List.Pairwise.imp_of_mem ?_ hn
    intro a b ha hb hne e
    exact hne (by rw [(hm a ha).2, (hm b hb).2, e])
   have := nodup_bound (N := N) this (fun y hy => by obtain ⟨x, hx, rfl⟩ := List.mem_map.1 hy; exact (hm x hx).1)
   simpa using this
  have := hl es.toList (fun x hx => by obtain ⟨j, _, e2, e3⟩ := hrd x hx; exact ⟨j, hN j _ e2, e3⟩) hnd
  simpa using this
 have hfit : Fit P k heldR es clock := ⟨by omega, h2, fun x hx => by obtain ⟨j, e, _⟩ := hrd x hx; exact ⟨_, e⟩⟩
 have hmem : ∀ p : Lit × DataW Value, p ∈ (es.toList.map (rg P k heldR)).foldr DataW.insert [] -> ∃ (j : Nat) (v : Value), p = (.int .u64 (j : Int), .held v) /\ f j = some v := fun p hp => by
  rw [mem_sorted, List.mem_map] at hp
  obtain ⟨x, hx, rfl⟩ := hp
  obtain ⟨j, e, e2, _⟩ := hrd x hx
  exact ⟨j, x.val, rg_of e, e2⟩
 have same : ∀ (j : Nat) (kl : Lit), (Lit.int .u64 (j : Int)).sameKey kl = true -> kl = .int .u64 (j : Int) := fun j kl h => by
  cases kl <;> simp [Lit.sameKey] at h
  obtain ⟨rfl, rfl⟩ := h
  rfl
 refine ⟨.map ((es.toList.map (rg P k heldR)).foldr DataW.insert []), ⟨es, clock, h1, hfit, hsz, rfl⟩, ?_, fun kl hkl => ?_, fun x v hx => ?_⟩
 ·show ((es.toList.map (rg P k heldR)).foldr DataW.insert []).length <= N + 1
  rw [length_sorted, List.length_map]
  simpa using hsz
 ·obtain ⟨p, hp, hs⟩ := List.any_eq_true.1 hkl
  obtain ⟨j, v, rfl, hv⟩ := hmem p hp
  obtain rfl := same j kl hs
  refine ⟨j, v, rfl, hv, fun z => ?_⟩
  simp only [DataW.atKey]
  cases hfi : ((es.toList.map (rg P k heldR)).foldr DataW.insert []).find? (fun p => p.1.sameKey (.int .u64 (j : Int))) with
  | none =>
   have := List.find?_eq_none.1 hfi _ hp
   exact absurd hs (by simpa using this)
  | some p2 =>
   have hm := List.mem_of_find?_eq_some hfi
   have hk2 := List.find?_some hfi
   obtain ⟨j2, v2, rfl, hv2⟩ := hmem p2 hm
   have e := same j2 _ hk2
   injection e with _ e
   have : j = j2 := by omega
   subst this
   rw [hv] at hv2
   injection hv2 with hv2
   simp only [hv2]
 ·obtain ⟨y, hy, y1, y2⟩ := h4 x v hx
  obtain ⟨j, e, e2, e3⟩ := hrd y hy
  rw [y1] at e3
  injection e3 with _ e3
  have : j = x := by omega
  subst this
  refine List.any_eq_true.2 ⟨rg P k heldR y, mem_sorted.2 (List.mem_map.2 ⟨y, hy, rfl⟩), ?_⟩
  rw [rg_of e]
  simp [Lit.sameKey]
end
end Go.Lap
namespace Go.Lap
open Go.RowKit Go.Maps
structure ValsOf (f : Nat -> Option Value) (vs : List Value) : Prop where
 each : ∀ v ∈ vs, ∃ x, f x = some v
 all : ∀ x v, f x = some v -> v ∈ vs
structure ValsMid (f : Nat -> Option Value) (D : DataW Value) (left : Lit -> Bool) (vs : List Value) : Prop where
 each : ∀ v ∈ vs, ∃ x, f x = some v
 rest : ∀ (x : Nat) v, f x = some v -> left (.int .u64 (x : Int)) = true ∨ v ∈ vs
 has : ∀ kl, left kl = true -> Maps.has D kl = true
theorem ValsMid.step {f : Nat -> Option Value} {D : DataW Value} {left : Lit -> Bool} {vs : List Value} {x : Nat} {v : Value} (h : ValsMid f D left vs) (hx : f x = some v) :
  ValsMid f D (fun z => left z && !z.sameKey (.int .u64 (x : Int))) (vs ++ [v]) := by
 refine ⟨fun u hu => ?_, fun y u hy => ?_, fun kl hk => ?_⟩
 ·rcases List.mem_append.1 hu with a | a
  ·exact h.each u a
  ·simp at a
   subst a
   exact ⟨x, hx⟩
 ·rcases h.rest y u hy with a | a
  ·by_cases e : y = x
   ·subst e
    rw [hx] at hy
    injection hy with hy
    subst hy
    exact Or.inr (by simp)
   ·refine Or.inl ?_
    show (left (.int .u64 (y : Int)) && !(Lit.int .u64 (y : Int)).sameKey (.int .u64 (x : Int))) = true
    rw [a]
    simp [Lit.sameKey]
    omega
  ·exact Or.inr (List.mem_append_left _ a)
 ·simp at hk
  exact h.has kl hk.1
theorem ValsMid.done {f : Nat -> Option Value} {D : DataW Value} {left : Lit -> Bool} {vs : List Value} (h : ValsMid f D left vs) (hl : ∀ kl, left kl = false) : ValsOf f vs :=
 ⟨h.each, fun x v hx => by
   rcases h.rest x v hx with a | a
   · rw [hl] at a; cases a
   · exact a⟩
end Go.Lap
namespace Go.Proofs.YthipgglplneijaaGreatDoor
open Go.RowKit Go.Lap Go.Maps Go.Sort Go.Shelf
abbrev SnapP := Snap × Option Addr × Nat
abbrev encP (p : SnapP) : Value := .agg #[.int .u64 (p.1.own : Int), .int .u64 (p.1.xmin : Int), .int .u64 (p.1.xmax : Int), .slice p.2.1 p.1.run.length p.2.2]
abbrev cellsP (p : SnapP) : List Value := [.int .u64 (p.1.own : Int), .int .u64 (p.1.xmin : Int), .int .u64 (p.1.xmax : Int), .slice p.2.1 p.1.run.length p.2.2]
theorem elem_snap : Elem Tryz.prog 191 73 4 48 := Elem.mk' (.agg #[.int .u64 0, .int .u64 0, .int .u64 0, .slice none 0 0]) Tryz.underlying191 (by kernel_rfl) rfl (by decide)
abbrev boxP (w : World) (p : SnapP) : World := w.alloc (.cells #[.int .u64 (p.1.own : Int), .int .u64 (p.1.xmin : Int), .int .u64 (p.1.xmax : Int), .slice p.2.1 p.1.run.length p.2.2] 73)
theorem boxP_new (w : World) (p : SnapP) : (boxP w p).heap[w.heap.size]? = some (.cells #[.int .u64 (p.1.own : Int), .int .u64 (p.1.xmin : Int), .int .u64 (p.1.xmax : Int), .slice p.2.1 p.1.run.length p.2.2] 73 (0, 0)) := alloc_new w _
theorem boxP_quiet (w : World) (p : SnapP) : Quiet w (boxP w p) := (Only.refl (fun _ => False) w).alloc _
theorem boxP_walks (w : World) (p : SnapP) : KeepsWalks w (boxP w p) := KeepsWalks.alloc w _
theorem grown_of {w w' : World} (h : Quiet w w') (row : Option Nat) : w.grownBy w' row := ⟨h.os, h.tape, h.output, h.size, fun k hk _ => h.block k hk (fun x => x)⟩
set_option maxHeartbeats 1000000 in
theorem vals_in (F : Fence) (n : Nat) (hf : F.fn 122) (hro : F.round = none) (hn : 1 <= n) (l Bm b nn : Nat) (D0 : DataW Value) (f : Nat -> Option Value)
  (hhas : ∀ kl, Maps.has D0 kl = true -> ∃ (x : Nat) (v : Value), kl = .int .u64 (x : Int) /\ f x = some v /\ ∀ z, D0.atKey kl z = .held v) (hall : ∀ (x : Nat) v, f x = some v -> Maps.has D0 (.int .u64 (x : Int)) = true) (hform : ∀ x v, f x = some v -> ∃ p : SnapP, v = encP p)
  (J : List SnapP -> World -> Prop)
  (hY : ∀ pre x W, J pre W -> pre.length < Maps.size D0 -> YieldAt F (n - 1) Tryz.prog l #[encP x] W fun e W' => e = .returned (.bool true) /\ J (pre ++ [x]) W' /\ KeepsWalks W W')
  (W : World) (hJ : AbidesFrom W.heap.size J) (hm : W.cell? ⟨Bm, 0, none⟩ = some (.map (some b))) (hown : W.ownsMap Tryz.prog 29 heldR b nn D0) (h0 : J [] W) :
  CallsIn F n Tryz.prog 122 #[.func (.yield l) #[] #[], .pointer (some ⟨Bm, 0, none⟩)] W fun e W' => (∃ v, e = .returned v) /\ ∃ ps : List SnapP, (ValsOf f (ps.map encP) /\ ps.length <= Maps.size D0) /\ J ps W' := by
 have HK : Keyed Tryz.prog 29 := int_keyed Tryz.underlying29
 refine callsIn_of_wp Tryz.func122 rfl hf ?_ hro
 simp only [Tryz.ntmps122, List.size_toArray, List.length_cons, List.length_nil, Nat.reduceAdd, Nat.reduceSub, Array.replicate_succ, Array.replicate_zero, List.push_toArray, List.append_toArray, List.nil_append, List.cons_append]
 gi_wp2_with (first
   | (gi_at_range; refine wpListIn_range_own _ rfl _ 65 rfl 29 73 HK Tryz.underlying65 _ b nn _ rfl hown ?_; intro w0 hrg0 hg0 hs0)
   | gi_in)
 go_frame
 gi_loopw [4] (fun _ wr => ∃ (left : Lit -> Bool) (cnt : Nat) (ps : List SnapP), wr.ranges Tryz.prog 29 heldR b W.heap.size nn D0 left cnt /\ ps.length + cnt <= Maps.size D0 /\ ValsMid f D0 left (ps.map encP) /\ J ps wr)
  (fun _ wr => wr.rangeLeft b W.heap.size)
 case atStart =>
  exact ⟨_, _, [], hrg0, by simp, ⟨fun v hv => by simp at hv, fun x v hx => Or.inl (hall x v hx), fun kl h => h⟩, hJ [] W w0 none h0 hg0 (fun r e => by cases e)⟩
 case round =>
  obtain ⟨left, cnt, ps, hrg, hcs, hC, hJs⟩ := hrel
  gi_wp2_with (first
    | (gi_at_next; refine wpListIn_next_ranges _ rfl _ rfl 29 HK heldR id id (fun key kl hk => ⟨key, rfl⟩) (fun v _ _ => ⟨v, rfl⟩) b W.heap.size nn _ _ _ rfl hrg ?_ ?_)
    | gi_in)
  ·intro hc0 hl0
   gi_wp2
   go_end0
   exact ⟨⟨_, rfl⟩, ps, ⟨hC.done hl0, by omega⟩, hJs⟩
  ·intro x c kl yd yp w2 cnt2 hkey hlk hv hat hrg2 hlt hg2 hs2 hen
   obtain ⟨k, v, rfl, hfk, hatk⟩ := hhas kl (hC.has kl hlk)
   obtain ⟨p, rfl⟩ := hform k v hfk
   have hcv : c = encP p := by
    have e1 := hat yd
    rw [hatk] at e1
    have e2 : (DataW.held c, ([] : List MemPlace)) = (yd, yp) := Option.some.inj hv
    injection e2 with e2 _
    rw [<- e2] at e1
    injection e1 with e1
    exact e1.symm
   subst hcv
   have hJ1 : J ps w2 := hJ ps wr w2 (some W.heap.size) hJs hg2 (fun r e => by cases e; exact ⟨Nat.le_refl _, hrg.iter_walk⟩)
   have hJ2 : J ps (boxP w2 p) := hJ ps w2 _ none hJ1 (grown_of (boxP_quiet w2 p) none) (fun r e => by cases e)
   have hrg5 := hrg2.of_walks (boxP_walks w2 p)
   obtain ⟨fn, tmps, assign, body, hy, hR⟩ := hY ps p _ hJ2 (by omega)
   have hC2 : ValsMid f D0 (fun z => left z && !z.sameKey (.int .u64 (k : Int))) ((ps ++ [p]).map encP) := by
    rw [List.map_append]
    exact hC.step hfk
   have hbx := boxP_new w2 p
   have b0 := cell_of hbx 0
   have b1 := cell_of hbx 1
   have b2 := cell_of hbx 2
   have b3 := cell_of hbx 3
   simp only [zGA, zGS, zGZ, cellsP] at b0 b1 b2 b3
   clear hs2 hbx
   gi_wp2
   refine hR.mono ?_
   rintro e W3 ⟨rfl, hJ3, hk3⟩
   gi_wp2
   have hrg3 := hrg5.of_walks hk3
   go_roundw
   case rel => exact ⟨_, cnt2, ps ++ [p], hrg3, by simp; omega, hC2, hJ3⟩
   case measure => rw [hrg3.left_eq, hrg.left_eq]; exact hlt
theorem cells_new (w : World) (xs : List Value) (t : TypeId) : ∀ j u, xs[j]? = some u -> (w.alloc (.cells xs.toArray t)).cell? ((⟨w.heap.size, 0, none⟩ : Addr).add j) = some u := by
 intro j u hj
 rw [add_none, Nat.zero_add, cell_of (alloc_new w _)]
 simpa using hj
theorem cellsP_one (x : SnapP) : ∀ u ∈ cellsP x, u.oneCell' = true := by
 intro u hu
 simp [cellsP] at hu
 rcases hu with rfl | rfl | rfl | rfl <;> rfl
def apAssign : Code := (Code.region 2 #[{ dst := some 5, op := Op.alloc 73, type := 0, pos := "iter.go:51", after := #[], guard := none }, { dst := none, op := Op.store 73 (Operand.tmp 5) (Operand.tmp 7), type := 0, pos := "iter.go:51", after := #[{ on := 0, ground := Ground.data }, { on := 0, ground := Ground.phase }], guard := none }] false)
def apBody : Code := (Code.block 1 (Code.region 3 #[{ dst := some 8, op := Op.load 191 (Operand.tmp 2), type := 191, pos := "iter.go:52", after := #[], guard := none }, { dst := some 9, op := Op.load 73 (Operand.tmp 5), type := 73, pos := "iter.go:52", after := #[], guard := none }, { dst := some 10, op := Op.buildSlice 191 1 #[(0, Operand.tmp 9)], type := 191, pos := "iter.go:52", after := #[{ on := 1, ground := Ground.data }], guard := none }, { dst := some 11, op := Op.call { callee := Callee.builtin Builtin.append, args := #[Operand.tmp 8, Operand.tmp 10], argTypes := #[191, 191] }, type := 191, pos := "iter.go:52", after := #[{ on := 0, ground := Ground.data }, { on := 2, ground := Ground.data }], guard := none }, { dst := none, op := Op.store 191 (Operand.tmp 2) (Operand.tmp 11), type := 0, pos := "iter.go:52", after := #[{ on := 3, ground := Ground.data }, { on := 3, ground := Ground.chain }, { on := 0, ground := Ground.phase }, { on := 1, ground := Ground.phase }, { on := 2, ground := Ground.phase }, { on := 3, ground := Ground.phase }], guard := none }] false))
def apRec (fn : FuncId) (sv : Value) (Bs D : Nat) (st : LoopState) (pend : Option Code) : Loop :=
 { state := st, pending := pend, fn, tmps := #[.slice none 0 0, sv, .pointer (some ⟨Bs, 0, none⟩), undef, .slice none 0 0, undef, sv, undef, undef, undef, undef, undef, undef], params := #[7], assign := apAssign, body := apBody, defers := D }
structure ApAt (w0 : World) (fn : FuncId) (sv : Value) (Bs l D : Nat) (ss : List SnapP) (W : World) : Prop where
 box : ∃ v, W.heap[Bs]? = some (.cells #[v] 191 (0, 0)) /\ W.ownsRow w0.heap.size 73 4 v ss.length (ss.flatMap cellsP) /\ (v = .slice none 0 0 ↔ ss = [])
 L : W.heap[l]? = some (.loop (apRec fn sv Bs D .ready none))
 K : W.heap[D]? = some (.deferred (some []))
 below : Below w0.heap.size w0 W
theorem ap_abides (w0 : World) (fn : FuncId) (sv : Value) (Bs l D B : Nat) (hB : w0.heap.size <= B) : AbidesFrom B (ApAt w0 fn sv Bs l D) := fun s W W' row h hg hrow => by
 have hrow' : ∀ r, row = some r -> ∃ o : Obj, W.heap[r]? = some o /\ o.isWalk = true := fun r e => (hrow r e).2
 obtain ⟨v, hv, hr, hn⟩ := h.box
 exact ⟨⟨v, (grownBy_keeps hg hrow' hv rfl).trans hv, ownsRow_abides_a hr hg hrow', hn⟩, (grownBy_keeps hg hrow' h.L rfl).trans h.L, (grownBy_keeps hg hrow' h.K rfl).trans h.K,
   h.below.grown hg h.below.size (fun k e => Nat.le_trans hB (hrow k e).1)⟩
set_option maxHeartbeats 2000000 in
theorem apYield (F : Fence) (m : Nat) (w0 : World) (fn : FuncId) (hfn : F.fn fn) (sv : Value) (Bs l D : Nat) (hBl : Bs ≠ l) (hDl : D ≠ l) (hDB : D ≠ Bs) (h0B : w0.heap.size <= Bs) (h0l : w0.heap.size <= l)
  (N : Nat) (hN : N <= maxLen) (hNb : N * 48 <= 140737488355328) (ss : List SnapP) (x : SnapP) (W : World) (h : ApAt w0 fn sv Bs l D ss W) (hlen : ss.length < N) :
  YieldAt F m Tryz.prog l #[encP x] W fun e W' => e = .returned (.bool true) /\ ApAt w0 fn sv Bs l D (ss ++ [x]) W' /\ KeepsWalks W W' := by
 have hne : 191 ≠ 73 := by decide
 obtain ⟨i0, z0, ht0, hi, hz0, hz1, hz2, hz3, hz4⟩ := elem_snap.ex
 obtain ⟨v, hv, hrow, _⟩ := h.box
 refine ⟨fn, #[.slice none 0 0, sv, .pointer (some ⟨Bs, 0, none⟩), undef, .slice none 0 0, undef, sv, encP x, undef, undef, undef, undef, undef], apAssign, apBody, by simpa [apRec] using run_yield (P := Tryz.prog) (args := #[encP x]) h.L rfl, roundIn_of_wpIn hfn ?_⟩
 unfold apAssign
 gi_wp2_with gi_round_op_a
 have hq5 := boxP_quiet W x
 have hbx := boxP_new W x
 have hk5 := boxP_walks W x
 unfold boxP at hq5 hbx hk5
 generalize W.alloc (.cells #[.int .u64 (x.1.own : Int), .int .u64 (x.1.xmin : Int), .int .u64 (x.1.xmax : Int), .slice x.2.1 x.1.run.length x.2.2] 73) = W1 at *
 have hv1 := hq5.get hv (fun x => x)
 have hK1 := hq5.get h.K (fun x => x)
 have hL1 := hq5.get h.L (fun x => x)
 have hrow1 := hrow.kept (grown_of hq5 none) (Classical.em _)
 have hb1 := h.below.grown (grown_of hq5 none) h.below.size (fun k e => by cases e)
 have hlo : l < W.heap.size := (Array.getElem?_eq_some_iff.1 h.L).1
 have hl : l < W1.heap.size := (Array.getElem?_eq_some_iff.1 hL1).1
 have hbr := run_beginRound (P := Tryz.prog) hL1 rfl
 obtain ⟨W2, hW2⟩ : ∃ W2, W1.putObj l (.loop { apRec fn sv Bs D .ready none with state := .busy }) = W2 := ⟨_, rfl⟩
 rw [hW2] at hbr
 have hg2 : W1.grownBy W2 (some l) := by rw [<- hW2]; exact grownBy_putObj_a _ _ _
 have hk2 : KeepsWalks W W2 := hk5.trans (by rw [<- hW2]; exact KeepsWalks.putObj _ hL1 rfl)
 have hv2 : W2.heap[Bs]? = some (.cells #[v] 191 (0, 0)) := by rw [<- hW2]; exact (World.putObj_heap_other hBl).trans hv1
 have hK2 : W2.heap[D]? = some (.deferred (some [])) := by rw [<- hW2]; exact (World.putObj_heap_other hDl).trans hK1
 have hL2 : W2.heap[l]? = some (.loop { apRec fn sv Bs D .ready none with state := .busy }) := by rw [<- hW2]; exact World.putObj_heap_same hl
 have hx2 : W2.heap[W.heap.size]? = some (.cells #[.int .u64 (x.1.own : Int), .int .u64 (x.1.xmin : Int), .int .u64 (x.1.xmax : Int), .slice x.2.1 x.1.run.length x.2.2] 73 (0, 0)) := by rw [<- hW2]; exact (World.putObj_heap_other (by omega)).trans hbx
 have hrow2 : W2.ownsRow w0.heap.size 73 4 v ss.length (ss.flatMap cellsP) := hrow1.kept hg2 (ownsRow_ne_a hrow1 hL1 (fun cur e => by first | cases e | exact hne (Obj.cells.inj e).2.1))
 have hb2 : Below w0.heap.size w0 W2 := hb1.grown hg2 hb1.size (fun k e => by cases e; exact h0l)
 have b0 := cell_of hx2 0
 have b1 := cell_of hx2 1
 have b2 := cell_of hx2 2
 have b3 := cell_of hx2 3
 simp only [zGA, zGS, zGZ] at b0 b1 b2 b3
 obtain ⟨hc2, hf2⟩ := cell_of_box_a hv2
 have hBlt : Bs < W2.heap.size := (Array.getElem?_eq_some_iff.1 hv2).1
 have hl2 : l < W2.heap.size := (Array.getElem?_eq_some_iff.1 hL2).1
 have hDlt : D < W2.heap.size := (Array.getElem?_eq_some_iff.1 hK2).1
 have ne_of : ∀ {j : Nat} {o : Obj}, W2.heap[j]? = some o -> (∀ cur, o ≠ .cells cur 73 (0, 0)) -> some j ≠ v.ownBlock := fun hj hno => by
  rcases ownsRow_ne_a hrow2 hj hno with e | e
  ·rw [e]; simp
  ·exact fun e' => e e'.symm
 clear hW2 hx2 hbx
 refine ⟨W2, hbr, ?_⟩
 unfold apBody
 gi_wp2_with (first
   | (gi_at_builtin; refine wpListIn_append_own _ rfl _ _ 191 rfl w0.heap.size 73 i0 z0 4 48 ht0 hi hz0 hz1 hz2 hz3 hz4 _ _ _ rfl (hrow2.alloc _) ⟨W2.heap.size, 0, none⟩ 1 1 (cellsP x) rfl rfl (cells_new W2 (cellsP x) _) (cellsP_one x) (by omega) (by omega) (by have := hb2.size; simp; omega) ?_; intro v' w3 hown' hg3 hnil3
      have hv3 : w3.heap[Bs]? = some (.cells #[v] 191 (0, 0)) := (hg3.block Bs (by simp; omega) (ne_of hv2 (fun cur e => by first | cases e | exact hne (Obj.cells.inj e).2.1))).trans ((Below.heap_alloc _ _ Bs hBlt).trans hv2)
      obtain ⟨hc3, hf3⟩ := cell_of_box_a hv3
      obtain ⟨g', cap', cur', rfl, hbase', hgb', hr1, hr2, hr3, hr4⟩ : ∃ g' cap' cur', v' = .slice (some ⟨g', 0, none⟩) (ss.length + 1) cap' /\ w0.heap.size <= g' /\ w3.heap[g']? = some (.cells cur' 73 (0, 0)) /\ ss.length + 1 <= cap' /\ cap' <= maxLen /\ cur'.size = cap' * 4 /\ cur'.toList.take ((ss.length + 1) * 4) = ss.flatMap cellsP ++ cellsP x := by
        rcases hown'.2 with ⟨_, h0⟩ | h'
        · exact absurd h0 (by omega)
        · exact h'
      go_frame)
   | gi_round_op_a)
 have hg3' : (W2.alloc (.cells (cellsP x).toArray 73)).grownBy w3 v.ownBlock := hg3
 have hL3 : w3.heap[l]? = some (.loop { apRec fn sv Bs D .ready none with state := .busy }) := (hg3'.block l (by simp; omega) (ne_of hL2 (fun cur e => by first | cases e | exact hne (Obj.cells.inj e).2.1))).trans ((Below.heap_alloc _ _ l hl2).trans hL2)
 have hK3 : w3.heap[D]? = some (.deferred (some [])) := (hg3'.block D (by simp; omega) (ne_of hK2 (fun cur e => by first | cases e | exact hne (Obj.cells.inj e).2.1))).trans ((Below.heap_alloc _ _ D hDlt).trans hK2)
 obtain ⟨w4, hw4⟩ : ∃ w4, w3.setCell ⟨Bs, 0, none⟩ (.slice (some ⟨g', 0, none⟩) (ss.length + 1) cap') = w4 := ⟨_, rfl⟩
 rw [hw4]
 have hg4 : w3.grownBy w4 (some Bs) := by rw [<- hw4]; exact grownBy_setCell0_a _ _ _
 have hv4 : w4.heap[Bs]? = some (.cells #[.slice (some ⟨g', 0, none⟩) (ss.length + 1) cap'] 191 (0, 0)) := by rw [<- hw4]; exact heap_setCell_box_a _ hv3
 have hL4 : w4.heap[l]? = some (.loop { apRec fn sv Bs D .ready none with state := .busy }) := (hg4.block l (Array.getElem?_eq_some_iff.1 hL3).1 (fun e => hBl (by cases e; rfl))).trans hL3
 have hK4 : w4.heap[D]? = some (.deferred (some [])) := (hg4.block D (Array.getElem?_eq_some_iff.1 hK3).1 (fun e => hDB (by cases e; rfl))).trans hK3
 have hrow4 := hown'.kept hg4 (ownsRow_ne_a hown' hv3 (fun cur e => by first | cases e | exact hne (Obj.cells.inj e).2.1))
 have hl4 : l < w4.heap.size := (Array.getElem?_eq_some_iff.1 hL4).1
 have hb3 : Below w0.heap.size w0 w3 := (hb2.alloc hb2.size _).grown hg3' (by have := hb2.size; simp; omega) (fun k e => (hrow2.lt k e).1)
 have hb4 : Below w0.heap.size w0 w4 := hb3.grown hg4 hb3.size (fun k e => by cases e; exact h0B)
 have hk4 : KeepsWalks W w4 := ((hk2.trans (KeepsWalks.alloc _ _)).trans (KeepsWalks.of_grownBy hg3' (ownsRow_not_walk_a (hrow2.alloc _)))).trans (by rw [<- hw4]; exact KeepsWalks.setCell _ _ _)
 clear hw4
 refine ⟨_, _, run_endRound none hL4, rfl, ⟨⟨_, (World.putObj_heap_other hBl).trans hv4, ?_, by simp⟩, World.putObj_heap_same hl4, (World.putObj_heap_other hDl).trans hK4, hb4.grown (grownBy_putObj_a _ _ _) hb4.size (fun k e => by cases e; exact h0l)⟩, hk4.trans (KeepsWalks.putObj _ hL4 rfl)⟩
 have := hrow4.kept (grownBy_putObj_a w4 l (.loop { { apRec fn sv Bs D .ready none with state := .busy } with state := if (none : Option Code).isNone then .ready else .done, pending := none })) (ownsRow_ne_a hrow4 hL4 (fun cur e => by first | cases e | exact hne (Obj.cells.inj e).2.1))
 simpa using this
set_option maxHeartbeats 2000000 in
theorem appendSeq_in (F : Fence) (n : Nat) (h11 : F.fn 121) (hro : F.round = none) (hn : 2 <= n) (g : Nat) (lb : Array Value) (hFg : F.fn g) (eg : ∀ args w, (callFunc g args).run Tryz.prog w = .ok (.enter g args) w)
  (S : List SnapP -> Prop) (N : Nat) (hN : N <= maxLen) (hNb : N * 48 <= 140737488355328) (w : World) (hseq : SeqGives F (n - 1) Tryz.prog g lb encP S N w) :
  CallsIn F n Tryz.prog 121 #[.slice none 0 0, .func (.func g) #[] lb] w fun e w' => ∃ (v : Value) (ss : List SnapP), e = .returned v /\ S ss /\ w'.ownsRow w.heap.size 73 4 v ss.length (ss.flatMap cellsP) /\ (v = .slice none 0 0 ↔ ss = []) /\ Below w.heap.size w w' := by
 have h1 : 1 <= n := by omega
 have hne : 191 ≠ 73 := by decide
 refine callsIn_of_wp_marks Tryz.func121 rfl h11 ?_ hro
 simp only [Tryz.ntmps121, List.size_toArray, List.length_cons, List.length_nil, Nat.reduceAdd, Nat.reduceSub, Array.replicate_succ, Array.replicate_zero, List.push_toArray, List.append_toArray, List.nil_append, List.cons_append]
 gi_wp2
 refine wpIn_rangeFunc ?_
 intro fn hfn
 rw [hro]
 obtain ⟨W0, hW0⟩ : ∃ W0, w.alloc (.cells #[.slice none 0 0] 191) = W0 := ⟨_, rfl⟩
 have hs0 : W0.heap.size = w.heap.size + 1 := by rw [<- hW0]; simp
 have hv0 : W0.heap[w.heap.size]? = some (.cells #[.slice none 0 0] 191 (0, 0)) := by rw [<- hW0]; exact World.alloc_heap_new w _
 have hb0 : Below w.heap.size w W0 := by rw [<- hW0]; exact (Below.refl _ w).alloc (Nat.le_refl _) _
 rw [hW0]
 obtain ⟨W1, hW1⟩ : ∃ W1, (W0.alloc (.deferred (some []))).alloc (.loop (apRec fn (.func (.func g) #[] lb) w.heap.size W0.heap.size .ready none)) = W1 := ⟨_, rfl⟩
 have hold : ∀ k, k < W0.heap.size -> W1.heap[k]? = W0.heap[k]? := fun k hk => by
  rw [<- hW1]; exact (Below.heap_alloc _ _ k (by simp; omega)).trans (Below.heap_alloc _ _ k hk)
 have hb1 : Below w.heap.size w W1 := by rw [<- hW1]; exact (hb0.alloc hb0.size _).alloc (by have := hb0.size; simp; omega) _
 have hs1 : W1.heap.size = W0.heap.size + 2 := by rw [<- hW1]; simp
 have hM : ApAt w fn (.func (.func g) #[] lb) w.heap.size (W0.heap.size + 1) W0.heap.size [] W1 :=
  ⟨⟨_, (hold w.heap.size (by omega)).trans hv0, ⟨rfl, .inl ⟨rfl, rfl⟩⟩, by simp⟩,
   by rw [<- hW1]; have := World.alloc_heap_new (W0.alloc (.deferred (some []))) (.loop (apRec fn (.func (.func g) #[] lb) w.heap.size W0.heap.size .ready none)); rwa [World.size_alloc] at this,
   by rw [<- hW1]; exact (Below.heap_alloc _ _ _ (by simp)).trans (World.alloc_heap_new W0 _), hb1⟩
 refine ⟨W0.heap.size + 1, [{ target := .collected W0.heap.size, args := #[] }], W1, { target := .fn (.func g) lb, args := #[.func (.yield (W0.heap.size + 1)) #[] #[]] }, W1, g,
   #[.func (.yield (W0.heap.size + 1)) #[] #[]] ++ lb, W1, ?_, ?_, ?_, ?_, fun _ => h1, ?_⟩
 ·rw [<- hW1]; exact run_enterLoop_outer _ _ _ _ _
 ·simp [resolve, go_sem]
 ·intro f' hf'; simp [Target.leads] at hf'; subst hf'; exact hFg
 ·simp [invoke, go_sem, eg]
 ·refine (hseq (W0.heap.size + 1) (ApAt w fn (.func (.func g) #[] lb) w.heap.size (W0.heap.size + 1) W0.heap.size) W1 hb1 (ap_abides _ _ _ _ _ _ _ hb1.size)
     (fun pre x W hJ hl => apYield F (n - 1 - 1) w fn hfn _ w.heap.size (W0.heap.size + 1) W0.heap.size (by omega) (by omega) (by omega) (Nat.le_refl _) (by omega) N hN hNb pre x W hJ hl) hM).mono ?_
  rintro e W2 ⟨⟨v0, rfl⟩, ss, hS, h2⟩
  obtain ⟨v, hv, hrow, hnil⟩ := h2.box
  have hend := run_endLoop (P := Tryz.prog) h2.L (by simp [apRec])
  obtain ⟨W3, hW3⟩ : ∃ W3, W2.putObj (W0.heap.size + 1) (.loop { apRec fn (.func (.func g) #[] lb) w.heap.size W0.heap.size .ready none with state := .exhausted }) = W3 := ⟨_, rfl⟩
  rw [hW3] at hend
  have hg3 : W2.grownBy W3 (some (W0.heap.size + 1)) := by rw [<- hW3]; exact grownBy_putObj_a _ _ _
  have hv3 : W3.heap[w.heap.size]? = some (.cells #[v] 191 (0, 0)) := by rw [<- hW3]; exact (World.putObj_heap_other (by omega)).trans hv
  have hK3 : W3.heap[W0.heap.size]? = some (.deferred (some [])) := by rw [<- hW3]; exact (World.putObj_heap_other (by omega)).trans h2.K
  have hrow3 := hrow.kept hg3 (ownsRow_ne_a hrow h2.L (fun cur e => by first | cases e | exact hne (Obj.cells.inj e).2.1))
  have hb3 : Below w.heap.size w W3 := h2.below.grown hg3 h2.below.size (fun k e => by cases e; omega)
  obtain ⟨hc3, hf3⟩ := cell_of_box_a hv3
  clear hW3
  refine ⟨none, W3, hend, ?_⟩
  gi_wp2
  rw [<- hs0]
  refine ⟨by simp, .inl ⟨_, _, rfl, run_takeDeferred hK3, ?_⟩⟩
  exact ⟨_, results_tmp rfl _ _ _, v, ss, rfl, hS, hrow3.kept (grownBy_putObj_a _ _ _) (ownsRow_ne_a hrow3 hK3 (fun cur e => by first | cases e | exact hne (Obj.cells.inj e).2.1)), hnil, hb3.grown (grownBy_putObj_a _ _ _) hb3.size (fun k e => by cases e; omega)⟩
set_option maxHeartbeats 1000000 in
theorem collect_in (F : Fence) (n : Nat) (h8 : F.fn 87) (h11 : F.fn 121) (hro : F.round = none) (hn : 3 <= n) (g : Nat) (lb : Array Value) (hFg : F.fn g) (eg : ∀ args w, (callFunc g args).run Tryz.prog w = .ok (.enter g args) w)
  (S : List SnapP -> Prop) (N : Nat) (hN : N <= maxLen) (hNb : N * 48 <= 140737488355328) (w : World) (hseq : SeqGives F (n - 1 - 1) Tryz.prog g lb encP S N w) :
  CallsIn F n Tryz.prog 87 #[.func (.func g) #[] lb] w fun e w' => ∃ (v : Value) (ss : List SnapP), e = .returned v /\ S ss /\ w'.ownsRow w.heap.size 73 4 v ss.length (ss.flatMap cellsP) /\ (v = .slice none 0 0 ↔ ss = []) /\ Below w.heap.size w w' := by
 have h1 : 1 <= n := by omega
 have e11 : ∀ args w, (callFunc 121 args).run Tryz.prog w = .ok (.enter 121 args) w := enters_of Tryz.func121 (by kernel_rfl) rfl
 refine callsIn_of_wp Tryz.func87 rfl h8 ?_ hro
 simp only [Tryz.ntmps87, List.size_toArray, List.length_cons, List.length_nil, Nat.reduceAdd, Nat.reduceSub, Array.replicate_succ, Array.replicate_zero, List.push_toArray, List.append_toArray, List.nil_append, List.cons_append]
 gi_wp2_with (gi_at_fn 121; refine (appendSeq_in F (n - 1) h11 hro (by omega) g lb hFg eg S N hN hNb _ hseq).mono ?_; rintro e w' ⟨v, ss, rfl, hS, hrow, hnil, hb⟩)
 go_ret
 exact ⟨v, ss, rfl, hS, hrow, hnil, hb⟩
end Go.Proofs.YthipgglplneijaaGreatDoor
namespace Go.Proofs.YthipgglplneijaaGreatDoor
open Go.RowKit Go.Lap
structure HorOf (nx : Nat) (ps : List SnapP) (hz : Nat) : Prop where
 none_ : ps = [] -> hz = nx
 some_ : ps ≠ [] -> ∃ p ∈ ps, hz = p.1.xmin
 least : ∀ p ∈ ps, hz <= p.1.xmin
theorem HorOf.start (nx : Nat) : HorOf nx [] nx := ⟨fun _ => rfl, fun h => absurd rfl h, fun p hp => by cases hp⟩
theorem HorOf.take_ {nx hz : Nat} {ps : List SnapP} {p : SnapP} (h : HorOf nx ps hz) (hl : ps = [] ∨ p.1.xmin < hz) : HorOf nx (ps ++ [p]) p.1.xmin :=
 ⟨fun e => by simp at e, fun _ => ⟨p, by simp, rfl⟩, fun q hq => by
   rcases List.mem_append.1 hq with x | x
   · rcases hl with y | y
     · rw [y] at x; cases x
     · exact Nat.le_of_lt (Nat.lt_of_lt_of_le y (h.least q x))
   · rw [List.mem_singleton] at x; rw [x]; exact Nat.le_refl _⟩
theorem HorOf.leave {nx hz : Nat} {ps : List SnapP} {p : SnapP} (h : HorOf nx ps hz) (hl : ps ≠ []) (hp : ¬ p.1.xmin < hz) : HorOf nx (ps ++ [p]) hz :=
 ⟨fun e => by simp at e, fun _ => by obtain ⟨q, hq, e⟩ := h.some_ hl; exact ⟨q, List.mem_append_left _ hq, e⟩, fun q hq => by
   rcases List.mem_append.1 hq with x | x
   · exact h.least q x
   · rw [List.mem_singleton] at x; rw [x]; omega⟩
theorem rowP_get : ∀ (ps : List SnapP) (i : Nat) (p : SnapP), ps[i]? = some p -> (ps.flatMap cellsP)[i * 4]? = some (.int .u64 (p.1.own : Int)) /\ (ps.flatMap cellsP)[i * 4 + 1]? = some (.int .u64 (p.1.xmin : Int)) /\ (ps.flatMap cellsP)[i * 4 + 2]? = some (.int .u64 (p.1.xmax : Int)) /\ (ps.flatMap cellsP)[i * 4 + 3]? = some (.slice p.2.1 p.1.run.length p.2.2)
 | [], i, p, h => by simp at h
 | x :: ps, 0, p, h => by
  simp at h
  subst h
  exact ⟨rfl, rfl, rfl, rfl⟩
 | x :: ps, i + 1, p, h => by
  have ih := rowP_get ps i p (by simpa using h)
  have e : (x :: ps).flatMap cellsP = .int .u64 (x.1.own : Int) :: .int .u64 (x.1.xmin : Int) :: .int .u64 (x.1.xmax : Int) :: .slice x.2.1 x.1.run.length x.2.2 :: ps.flatMap cellsP := rfl
  rw [e, show (i + 1) * 4 = i * 4 + 1 + 1 + 1 + 1 by omega]
  exact ih
def HorPost (w : World) (nx : Nat) (ps : List SnapP) (e : Ending) (w' : World) : Prop := ∃ hz : Nat, e = .returned (.int .u64 (hz : Int)) /\ HorOf nx ps hz /\ U64 hz /\ Quiet w w'
set_option maxHeartbeats 1000000 in
theorem snap_horizon {w : World} {F S : Nat -> Prop} {lb c : Nat} {L : List Nat} {A : Option Addr} {ps : List SnapP} (h : LogAt w F lb L) (hL : L.length < 1000000000) (hr : Rd w S 4 A ps.length (ps.flatMap cellsP)) (hn : ps.length <= 10000000) (hu : ∀ p ∈ ps, U64 p.1.xmin) :
  Calls Tryz.prog 86 #[.pointer (some ⟨lb, 0, none⟩), .slice A ps.length c] w (HorPost w (L.length + 1) ps) := by
 have HNX := Lib.hid (log_next h)
 have HR := Lib.hid hr
 have HU := Lib.hid hu
 obtain ⟨nx, hnx⟩ : ∃ nx, L.length + 1 = nx := ⟨_, rfl⟩
 have hnu : U64 nx := by unfold U64; omega
 have HNU := Lib.hid hnu
 rw [hnx]
 obtain ⟨n, hn2⟩ : ∃ n, ps.length = n := ⟨_, rfl⟩
 have HN := Lib.hid hn2
 rw [hn2] at hn ⊢
 obtain ⟨POST, hPOST⟩ : ∃ POST, HorPost w nx ps = POST := ⟨_, rfl⟩
 rw [hPOST]
 have HPOST := Lib.hid hPOST
 have HE : Hid (((L.length : Int) + 1) = (nx : Int)) := by show _ = _; omega
 clear h hL hr hu hn2 hPOST hnu hnx
 go_enter Tryz.func86, Tryz.ntmps86
 go_wp2_with fail
 refine HNX.out.mono ?_
 rintro e w1 ⟨rfl, m, rfl⟩
 rw [HE.out]
 have HQ1 : Hid (Quiet w (w.drewN m)) := (Only.refl (fun _ => False) w).drewN m
 clear HNX HE
 generalize w.drewN m = w1 at *
 go_wp2_with fail
 go_loopw [12, 5, 6, 7] (fun i v _ _ wr => ∃ (k hz : Nat), k <= n /\ i = .int .i64 (k : Int) /\ v = .int .u64 (hz : Int) /\ HorOf nx (ps.take k) hz /\ U64 hz /\ Quiet w wr) (fun i _ _ _ _ => n - (intOf i).toNat)
 case atStart => exact ⟨0, nx, Nat.zero_le _, rfl, rfl, HorOf.start nx, HNU.out, HQ1.out⟩
 case round =>
  obtain ⟨k, hz, hk, rfl, rfl, hH, hz64, hq⟩ := hrel
  have HH := Lib.hid hH
  have HZ := Lib.hid hz64
  have HQ := Lib.hid hq
  clear hH hz64 hq
  by_cases hlt : k < n
  ·obtain ⟨p, hp⟩ : ∃ p, ps[k]? = some p := ⟨_, List.getElem?_eq_getElem (by have := HN.out; omega)⟩
   obtain ⟨k0, k1, k2, k3⟩ := rowP_get ps k p hp
   have hlen := (List.getElem?_eq_some_iff.1 k0).1
   obtain ⟨b, off, rfl, _, hc⟩ := (HR.out.kept HQ.out (fun _ _ x => x)).cells (by omega)
   have c0 := hc _ _ k0
   have c1 := hc _ _ k1
   have c2 := hc _ _ k2
   have c3 := hc _ _ k3
   rw [<- Nat.add_assoc] at c1 c2 c3
   have hlb := cell_lt c0
   dsimp only at hlb
   have HU2 : Hid (U64 p.1.xmin) := HU.out p (List.mem_of_getElem? hp)
   have HT : Hid (ps.take (k + 1) = ps.take k ++ [p]) := by show _ = _; rw [List.take_add_one, hp]; rfl
   have HTL : Hid ((ps.take k).length = k) := by show _ = _; rw [List.length_take]; have := HN.out; omega
   have HQ5 : Hid (Quiet w (wr.alloc (.cells #[.int .u64 (p.1.own : Int), .int .u64 (p.1.xmin : Int), .int .u64 (p.1.xmax : Int), .slice p.2.1 p.1.run.length p.2.2] 73))) := HQ.out.alloc _
   clear hc hlen k0 k1 k2 k3
   by_cases h0 : k = 0 ∨ p.1.xmin < hz
   ·have HN1 : Hid (HorOf nx (ps.take (k + 1)) p.1.xmin) := by
     show HorOf _ _ _
     rw [HT.out]
     exact HH.out.take_ (by rcases h0 with x | x; left; subst x; rfl; right; exact x)
    clear HH HT HTL
    by_cases hk0 : k = 0
    ·subst hk0
     simp only [Nat.zero_mul, Nat.add_zero] at c0 c1 c2 c3
     go_wp2
     go_roundw
     case rel => exact ⟨1, p.1.xmin, by omega, by go_num, rfl, HN1.out, HU2.out, HQ5.out⟩
     case measure => simp [intOf]; omega
    ·have hx : (p.1.xmin : Int) < (hz : Int) := by rcases h0 with x | x; exact absurd x hk0; omega
     have hki : ¬ (k : Int) = 0 := by omega
     go_wp2
     go_roundw
     case rel => exact ⟨k + 1, p.1.xmin, by omega, by go_num, rfl, HN1.out, HU2.out, HQ5.out⟩
     case measure => simp [intOf]; omega
   ·have hk0 : ¬ (k : Int) = 0 := by omega
    have hx : ¬ (p.1.xmin : Int) < (hz : Int) := by omega
    have HN1 : Hid (HorOf nx (ps.take (k + 1)) hz) := by
     show HorOf _ _ _
     rw [HT.out]
     exact HH.out.leave (fun e => by have := HTL.out; rw [e] at this; simp at this; omega) (by omega)
    clear HH HT HTL h0
    go_wp2
    go_roundw
    case rel => exact ⟨k + 1, hz, by omega, by go_num, rfl, HN1.out, HZ.out, HQ5.out⟩
    case measure => simp [intOf]; omega
  ·obtain rfl : k = n := by omega
   have HEND : Hid (POST (.returned (.int .u64 (hz : Int))) wr) := by
    rw [<- HPOST.out]
    have := HH.out
    rw [List.take_of_length_le (by have := HN.out; omega)] at this
    exact ⟨hz, rfl, this, HZ.out, HQ.out⟩
   clear HH
   go_wp2
   exact HEND.out
end Go.Proofs.YthipgglplneijaaGreatDoor
namespace Go.Proofs.YthipgglplneijaaGreatDoor
open Go.RowKit Go.Lap Go.Maps
structure HorSt (s : St) (hz : Nat) : Prop where
 none_ : (∀ x, s.sn x = none) -> hz = s.L.length + 1
 some_ : (∃ x y, s.sn x = some y) -> ∃ x y, s.sn x = some y /\ hz = y.xmin
 least : ∀ x y, s.sn x = some y -> hz <= y.xmin
 num : U64 hz
def StoreHorPost (w : World) (s : St) (e : Ending) (w' : World) : Prop := ∃ hz : Nat, e = .returned (.int .u64 (hz : Int)) /\ HorSt s hz /\ Quiet w w'
theorem encP_inj {p : SnapP} {y : Snap} {A : Option Addr} {c : Nat} (h : encP p = snapV y A c) : p.1.xmin = y.xmin := by
 have h' : (#[Value.int .u64 (p.1.own : Int), .int .u64 (p.1.xmin : Int), .int .u64 (p.1.xmax : Int), .slice p.2.1 p.1.run.length p.2.2] : Array Value) = #[.int .u64 (y.own : Int), .int .u64 (y.xmin : Int), .int .u64 (y.xmax : Int), .slice A y.run.length c] := by injection h
 have h2 := congrArg (fun a : Array Value => a[1]?) h'
 simp at h2
 omega
theorem hor_done {w : World} {o : Nat -> Nat} {s : St} {fs : Nat -> Option Value} {ps : List SnapP} {hz : Nat} (h : SnapsIn w o s.sn fs) (hv : ValsOf fs (ps.map encP)) (hh : HorOf (s.L.length + 1) ps hz) (hu : U64 hz) : HorSt s hz := by
 have back : ∀ p ∈ ps, ∃ x y, s.sn x = some y /\ p.1.xmin = y.xmin := fun p hp => by
  obtain ⟨x, hx⟩ := hv.each (encP p) (List.mem_map_of_mem hp)
  cases hs : s.sn x with
  | none => rw [h.1 x hs] at hx; cases hx
  | some y =>
   obtain ⟨A, c, e, _⟩ := h.2 x y hs
   rw [e] at hx
   injection hx with hx
   exact ⟨x, y, hs, encP_inj hx.symm⟩
 have forth : ∀ x y, s.sn x = some y -> ∃ p ∈ ps, p.1.xmin = y.xmin := fun x y hs => by
  obtain ⟨A, c, e, _⟩ := h.2 x y hs
  obtain ⟨p, hp, hpe⟩ := List.mem_map.1 (hv.all x _ e)
  exact ⟨p, hp, encP_inj hpe⟩
 refine ⟨fun hn => hh.none_ ?_, fun ⟨x, y, hs⟩ => ?_, fun x y hs => ?_, hu⟩
 ·rcases ps with _ | ⟨p, ps⟩
  ·rfl
  ·obtain ⟨x, y, hs, _⟩ := back p (List.mem_cons_self ..)
   rw [hn x] at hs
   cases hs
 ·obtain ⟨p, hp, _⟩ := forth x y hs
  obtain ⟨q, hq, e⟩ := hh.some_ (fun e => by rw [e] at hp; cases hp)
  obtain ⟨x', y', h1, h2⟩ := back q hq
  exact ⟨x', y', h1, e.trans h2⟩
 ·obtain ⟨p, hp, e⟩ := forth x y hs
  rw [<- e]
  exact hh.least p hp
set_option maxHeartbeats 400000 in
theorem maps_vals (ms : Nat) (w : World) : Calls Tryz.prog 88 #[.map (some ms)] w fun e w' => e = .returned (.func (.func 122) #[] #[.pointer (some ⟨w.heap.size, 0, none⟩)]) /\ Quiet w w' /\ w'.heap[w.heap.size]? = some (.cells #[.map (some ms)] 65 (0, 0)) := by
 go_enter Tryz.func88, Tryz.ntmps88
 go_wp2
 go_ret
 exact ⟨rfl, (Only.refl _ _).alloc _, alloc_new _ _⟩
theorem vals_gives {w : World} {o : Nat -> Nat} {sn : Nat -> Option Snap} {ms Bm N : Nat} {fs : Nat -> Option Value} (hm : MapF w ms fs) (hs : SnapsIn w o sn fs) (hN : ∀ x y, sn x = some y -> x <= N) (hN2 : N <= 2000000) (hB : w.heap[Bm]? = some (.cells #[.map (some ms)] 65 (0, 0))) :
  ∃ M, M <= N + 1 /\ SeqGives Fence.wide 4 Tryz.prog 122 #[.pointer (some ⟨Bm, 0, none⟩)] encP (fun ps => ValsOf fs (ps.map encP) /\ ps.length <= M) M w := by
 have hx : ∀ x v, fs x = some v -> ∃ y A c, sn x = some y /\ v = snapV y A c := fun x v h => by
  cases e : sn x with
  | none => rw [hs.1 x e] at h; cases h
  | some y =>
   obtain ⟨A, c, e2, _⟩ := hs.2 x y e
   rw [e2] at h
   injection h with h
   exact ⟨y, A, c, rfl, h.symm⟩
 obtain ⟨D, h1, h2, h3, h4⟩ := hm.owns Tryz.underlying29 (N := N) (fun x v h => by obtain ⟨y, A, c, e, _⟩ := hx x v h; exact hN x y e) (by unfold maxLen; omega)
 refine ⟨Maps.size D, h2, fun l J W hW hJ hY h0 => ?_⟩
 have hown' : W.ownsMap Tryz.prog 29 heldR ms (N + 1) D := by
  have hbl := h1.lt
  obtain ⟨es, clock, hb, Ft, hs', hD⟩ := h1
  exact ⟨es, clock, (hW.block ms hbl).trans hb, Ft, hs', hD⟩
 have hb2 : W.heap[Bm]? = some (.cells #[.map (some ms)] 65 (0, 0)) := (hW.block Bm (lt_of_get hB)).trans hB
 exact vals_in Fence.wide 4 trivial rfl (by omega) l Bm ms (N + 1) D fs h3 h4 (fun x v h => by obtain ⟨y, A, c, _, e⟩ := hx x v h; exact ⟨(y, A, c), e⟩) J hY W hJ (by rw [cell_of hb2]; rfl) hown' h0
def CollPost (w : World) (fs : Nat -> Option Value) (N : Nat) (e : Ending) (w' : World) : Prop :=
 ∃ A c, ∃ ps : List SnapP, e = .returned (.slice A ps.length c) /\ ValsOf fs (ps.map encP) /\ ps.length <= N /\ Quiet w w' /\ Rd w' (fun _ => True) 4 A ps.length (ps.flatMap cellsP)
theorem collect_vals {w : World} {o : Nat -> Nat} {sn : Nat -> Option Snap} {ms Bm N : Nat} {fs : Nat -> Option Value} (hm : MapF w ms fs) (hs : SnapsIn w o sn fs) (hN : ∀ x y, sn x = some y -> x <= N) (hN2 : N <= 2000000) (hB : w.heap[Bm]? = some (.cells #[.map (some ms)] 65 (0, 0))) :
  Calls Tryz.prog 87 #[.func (.func 122) #[] #[.pointer (some ⟨Bm, 0, none⟩)]] w (CollPost w fs (N + 1)) := by
 obtain ⟨M, hM, hg⟩ := vals_gives hm hs hN hN2 hB
 have eg : ∀ args w, (callFunc 122 args).run Tryz.prog w = .ok (.enter 122 args) w := enters_of Tryz.func122 (by kernel_rfl) rfl
 refine (callsIn_wide.1 (collect_in Fence.wide 6 trivial trivial rfl (by omega) 122 #[.pointer (some ⟨Bm, 0, none⟩)] trivial eg _ M (by unfold maxLen; omega) (by omega) w hg)).mono ?_
 rintro e w' ⟨v, ps, rfl, ⟨hv, hl⟩, hrow, _, hb⟩
 obtain ⟨A, c, rfl, _, _, hrd⟩ := own_form (ownsRow_base_a hrow (Nat.zero_le _))
 exact ⟨A, c, ps, rfl, hv, by omega, ⟨hb.os, hb.tape, hb.output, hb.size, fun k hk _ => hb.block k hk⟩, hrd.mono (fun _ _ => trivial)⟩
set_option maxHeartbeats 1000000 in
theorem store_horizon {w : World} {sb N : Nat} {o : Nat -> Nat} {s : St} (h : StoreAt w sb o s) (hL : s.L.length < 1000000000) (hN : ∀ x y, s.sn x = some y -> x <= N) (hN2 : N <= 2000000) :
  Calls Tryz.prog 43 #[ptrV sb] w (StoreHorPost w s) := by
 obtain ⟨lb, bb, pb, mh, mt, ms, fh, ft, fs, h⟩ := h
 have HH := Lib.hid h
 have HN := Lib.hid (And.intro hN (And.intro hN2 hL))
 have HS3 : Hid (∀ W, Quiet w W -> (fun w' => w'.cell? ⟨sb, 0, none⟩ = some (ptrV lb) /\ w'.cell? ⟨sb, 5, none⟩ = some (.map (some ms))) W) := fun W hq => by
  have c := (HH.out.quietly hq).cells
  exact ⟨c.1, c.2.2.2.2.2.1⟩
 obtain ⟨POST, hPOST⟩ : ∃ POST, StoreHorPost w s = POST := ⟨_, rfl⟩
 rw [hPOST]
 have HPOST := Lib.hid hPOST
 clear h hL hN hN2 hPOST
 go_enter Tryz.func43, Tryz.ntmps43
 go_wp2_with fail
 refine zH HS3 ((Only.refl _ _).drew) (fun hHeld => ?_)
 simp only [List.size_toArray, List.length_cons, List.length_nil, Nat.reduceAdd]
 have q0 : Quiet w w.drew := (Only.refl _ _).drew
 generalize w.drew = d0 at q0 hHeld ⊢
 refine zT 0 ?_
 refine zT 1 ?_
 refine zT 2 ?_
 refine zT 3 ?_
 refine zT 4 ?_
 refine zT 5 ?_
 refine zT 6 ?_
 refine zT 7 ?_
 refine zR 8 ?_
 intro K hK
 go_simp
 go_at_call 88
 refine (maps_vals ms _).mono ?_
 rintro e d1 ⟨rfl, hq1, hb1⟩
 have q1 := q0.trans hq1
 dsimp only
 refine hK.out _ _ ?_ (fun hHeld => ?_)
 ·exact HS3.out _ q1
 clear hK K
 (try simp only [Act.put, zPA, zPZ, zPS])
 obtain ⟨Bm, hBm⟩ : ∃ Bm, d0.heap.size = Bm := ⟨_, rfl⟩
 rw [hBm] at hb1
 (try rw [hBm])
 refine zR 9 ?_
 intro K hK
 go_simp
 go_at_call 87
 refine (collect_vals (Bm := Bm) (HH.out.quietly q1).mS (HH.out.quietly q1).snaps HN.out.1 HN.out.2.1 hb1).mono ?_
 rintro e d2 ⟨A2, c2, ps, rfl, hv2, hl2, hq2, hr2⟩
 have q2 := q1.trans hq2
 dsimp only
 refine hK.out _ _ ?_ (fun hHeld => ?_)
 ·exact HS3.out _ q2
 clear hK K
 (try simp only [Act.put, zPA, zPZ, zPS])
 refine zR 10 ?_
 intro K hK
 go_simp
 go_at_call 86
 refine (snap_horizon (HH.out.quietly q2).log HN.out.2.2 hr2 (by have := HN.out.2.1; omega) (fun p hp => by
     obtain ⟨x, hx⟩ := hv2.each (encP p) (List.mem_map_of_mem hp)
     cases hs : s.sn x with
     | none => rw [HH.out.snaps.1 x hs] at hx; cases hx
     | some y =>
       obtain ⟨A, c, e, hsv⟩ := HH.out.snaps.2 x y hs
       rw [e] at hx
       injection hx with hx
       rw [encP_inj hx.symm]
       exact hsv.num.2.1)).mono ?_
 rintro e d3 ⟨hz, rfl, hh3, hu3, hq3⟩
 have q3 := q2.trans hq3
 dsimp only
 refine hK.out _ _ ?_ (fun hHeld => ?_)
 ·exact HS3.out _ q3
 clear hK K
 (try simp only [Act.put, zPA, zPZ, zPS])
 refine zT 11 ?_
 refine wpAnyH_done (by kernel_rfl) ?_ _
 have HEND : Hid (POST (.returned (.int .u64 (hz : Int))) d3) := by
  rw [<- HPOST.out]
  exact ⟨hz, rfl, hor_done HH.out.snaps hv2 hh3 hu3, q3⟩
 clear hHeld q0 q1 q2 q3 hq1 hq2 hq3 hb1 hv2 hl2 hr2 hh3 hu3 HS3
 go_wp2
 exact HEND.out
end Go.Proofs.YthipgglplneijaaGreatDoor
namespace Go.Proofs.YthipgglplneijaaGreatDoor
open Go.RowKit Go.Lap
structure AllW (w0 w : World) (v0 v : Value) (ys xs : List EV) : Prop where
 only : Only (fun k => v0.ownBlock = some k) w0 w
 row : RowAt w v (ys ++ xs)
 loc : v.ownBlock = v0.ownBlock ∨ ∃ k, v.ownBlock = some k /\ w0.heap.size <= k
theorem AllW.start {w : World} {v : Value} {ys : List EV} (h : RowAt w v ys) : AllW w w v v ys [] := ⟨Only.refl _ _, by rw [List.append_nil]; exact h, Or.inl rfl⟩
theorem AllW.join {w0 w w' : World} {v0 v v' : Value} {ys xs zs : List EV} (h : AllW w0 w v0 v ys xs) (h' : AllW w w' v v' (ys ++ xs) zs) : AllW w0 w' v0 v' ys (xs ++ zs) := by
 have hz0 := h.only.size
 refine ⟨h.only.trans' h'.only (fun k hk e => ?_), by rw [<- List.append_assoc]; exact h'.row, ?_⟩
 ·rcases h.loc with x | ⟨j, x, y⟩
  ·rw [x] at e; exact e
  ·rw [x] at e; injection e with e; omega
 ·rcases h'.loc with x | ⟨j, x, y⟩
  ·rw [x]; exact h.loc
  ·exact Or.inr ⟨j, x, by omega⟩
def AllPost (w : World) (v : Value) (ys xs : List EV) (e : Ending) (w' : World) : Prop := ∃ v', e = .returned v' /\ AllW w w' v v' ys xs
set_option maxHeartbeats 1000000 in
theorem all_leaf {K F : Nat -> Prop} {w : World} {b : Nat} {xs ys : List EV} {v0 v : Value} (hl : Leaf K w b F xs v0) (hrow : RowAt w v ys) (hn : ys.length + xs.length <= 40000) :
  Calls Tryz.prog 161 #[ptrV b, v] w (AllPost w v ys xs) := by
 obtain ⟨A0, c0, hv0, _, _, hr0⟩ := own_form hl.row
 obtain ⟨Av, cv, hvv, _, _, _⟩ := own_form hrow
 have hbox := hl.box
 rw [hv0] at hbox
 have b0 : w.cell? ⟨b, 0, none⟩ = some (.slice A0 xs.length c0) := by rw [cell_of hbox]; rfl
 have HLF := Lib.hid (leaf_any b _ none 0 0 _ hbox)
 have HR0 := Lib.hid hr0
 have HROW := Lib.hid hrow
 obtain ⟨POST, hPOST⟩ : ∃ POST, AllPost w v ys xs = POST := ⟨_, rfl⟩
 have HPOST := Lib.hid hPOST
 rw [hPOST]
 subst hvv
 clear hl hrow hbox hr0 hv0 hPOST
 go_enter Tryz.func161, Tryz.ntmps161
 go_wp2_with fail
 refine HLF.out.mono ?_
 rintro r w1 ⟨rfl, rfl⟩
 clear HLF
 go_wp2_with (at_builtin; refine app elem_ent rfl (.tmp 9) (.tmp 13) rfl rfl HROW.out rfl HR0.out (one_row xs) (by unfold maxLen; omega) (by omega) ?_)
 intro v5 w5 hg
 have HR : Hid (POST (.returned v5) w5) := by
  rw [<- HPOST.out]
  refine ⟨v5, rfl, hg.only, ?_, ?_⟩
  ·unfold RowAt
   rw [rowV_append, List.length_append]
   exact hg.own
  ·rcases hg.loc with x | x
   ·exact Or.inl x
   ·exact Or.inr ⟨_, x, Nat.le_refl _⟩
 clear hg HR0 HROW b0
 go_wp2
 exact HR.out
def AllIH (K : Nat -> Prop) (h : Nat) : Prop := ∀ (F : Nat -> Prop) (w : World) (b : Nat) (xs ys : List EV) (v : Value), NodeAt K h w b F xs -> (∀ k, F k ∨ K k -> k < w.heap.size /\ v.ownBlock ≠ some k) -> RowAt w v ys -> ys.length + xs.length <= 40000 →
 Calls Tryz.prog 161 #[ptrV b, v] w (AllPost w v ys xs)
set_option maxHeartbeats 2000000 in
theorem all_inner {K F : Nat -> Prop} {h : Nat} {w : World} {b : Nat} {ks : List Kid} {ys : List EV} {v0 u0 v : Value} (hih : AllIH K h) (hl : Inner (NodeAt K h) w b F v0 u0 ks) (hR : ∀ k, F k ∨ K k -> k < w.heap.size /\ v.ownBlock ≠ some k) (hrow : RowAt w v ys) (hn : ys.length + (flat ks).length <= 40000) :
  Calls Tryz.prog 161 #[ptrV b, v] w (AllPost w v ys (flat ks)) := by
 obtain ⟨gu, cu, hu0, hcu, _⟩ := hl.form
 obtain ⟨n, hnn⟩ : ∃ n, ks.length = n := ⟨_, rfl⟩
 have hnk : n <= 40000 := by have := flat_le (fun x hx => (hl.kid x hx).1); omega
 have hbox := hl.box
 rw [hnn] at hu0
 rw [hu0] at hbox
 have b1 : w.cell? ⟨b, 1, none⟩ = some (.slice (some ⟨gu, 0, none⟩) n cu) := by rw [cell_of hbox]; rfl
 have HLF := Lib.hid (leaf_any b _ _ _ _ _ hbox)
 have HNN := Lib.hid hnn
 have HI := Lib.hid hl
 have HR := Lib.hid hR
 have HU0 := Lib.hid hu0
 have HO0 := Lib.hid (AllW.start hrow)
 have HIH := Lib.hid hih
 have HN4 := Lib.hid hn
 obtain ⟨POST, hPOST⟩ : ∃ POST, AllPost w v ys (flat ks) = POST := ⟨_, rfl⟩
 have HPOST := Lib.hid hPOST
 rw [hPOST]
 clear hl hR hrow hnn hPOST hu0 hn hcu hih hbox
 go_enter Tryz.func161, Tryz.ntmps161
 go_wp2_with fail
 refine HLF.out.mono ?_
 rintro r w1 ⟨rfl, rfl⟩
 clear HLF
 go_wp2_with fail
 clear b1
 go_loopw [20, 1, 6] (fun ci cv _ wr => ∃ (i : Nat) (v' : Value), i <= n /\ ci = .int .i64 (i : Int) /\ v' = cv /\ AllW w wr v v' ys (flat (ks.take i))) (fun ci _ _ _ => n - (intOf ci).toNat)
 case atStart => exact ⟨0, v, Nat.zero_le _, rfl, rfl, HO0.out⟩
 case round =>
  obtain ⟨i, v', hi', rfl, rfl, hO⟩ := hrel
  clear HO0
  have HO := Lib.hid hO
  obtain ⟨Av, cv', hvv, _, _, _⟩ := own_form hO.row
  obtain ⟨m, hm⟩ : ∃ m, (ys ++ flat (ks.take i)).length = m := ⟨_, rfl⟩
  rw [hm] at hvv
  subst hvv
  clear hm
  by_cases hlt : i < n
  ·obtain ⟨x, hx⟩ : ∃ x, ks[i]? = some x := ⟨_, List.getElem?_eq_getElem (by have := HNN.out; omega)⟩
   have hxm : x ∈ ks := List.mem_of_getElem? hx
   have hkids := owns_kept HI.out.kids hO.only (fun k e => (HR.out k (Or.inl (HI.out.foot.2.2 k e))).2)
   rw [HU0.out] at hkids
   have p1 : wr.cell? ⟨gu, i, none⟩ = some (ptrV x.b) := by
    have := hkids.cells rfl i (ptrV x.b) (by rw [kptrs, List.getElem?_map, hx]; rfl)
    rw [add_none, Nat.zero_add] at this
    exact this
   have hft : (flat (ks.take (i + 1))).length <= (flat ks).length := by
    have e : flat ks = flat (ks.take (i + 1)) ++ flat (ks.drop (i + 1)) := by rw [<- List.flatMap_append, List.take_append_drop]
    rw [e, List.length_append]; omega
   rw [flat_take hx, List.length_append] at hft
   have hz := hO.only.size
   have HC := Lib.hid (HIH.out (fun k => x.F k /\ k < w.heap.size) wr x.b x.xs (ys ++ flat (ks.take i)) _ (NodeAt.kept hO.only (fun k z => (HR.out k (Or.inr z)).2) ((HI.out.kid x hxm).2.lim) (fun k z => (HR.out k (Or.inl (HI.out.sub x hxm k z.1).1)).2)) (fun k z => by
     have hk : k < w.heap.size /\ v.ownBlock ≠ some k := by
       rcases z with z | z
       · exact HR.out k (Or.inl (HI.out.sub x hxm k z.1).1)
       · exact HR.out k (Or.inr z)
     refine ⟨by omega, fun e => ?_⟩
     rcases hO.loc with y | ⟨j, y, t⟩
     · rw [y] at e; exact hk.2 e
     · rw [y] at e; injection e with e; omega) hO.row (by have := HN4.out; rw [List.length_append]; omega))
   have HFT := Lib.hid (flat_take hx)
   have d0 : (0 : Int) <= (i : Int) := by omega
   have d1 : (i : Int) < (n : Int) := by omega
   clear hx hxm hkids hft hz hO
   go_wp2_with fail
   refine HC.out.mono ?_
   rintro r w2 ⟨v2, rfl, hO2⟩
   have HO2 := Lib.hid (HO.out.join hO2)
   rw [<- HFT.out] at HO2
   clear hO2 HC p1
   go_wp2
   go_roundw
   case rel => exact ⟨i + 1, v2, by omega, by go_num, rfl, HO2.out⟩
   case measure => simp [intOf]; omega
  ·have HRES : Hid (POST (.returned (.slice Av m cv')) wr) := by
    rw [<- HPOST.out]
    refine ⟨_, rfl, ?_⟩
    rw [List.take_of_length_le (by have := HNN.out; omega)] at hO
    exact hO
   clear hO
   go_wp2
   exact HRES.out
theorem all_ih (K : Nat -> Prop) (h : Nat) : AllIH K h := by
 induction h with
 | zero =>
  intro F w b xs ys v ⟨v0, hl⟩ hR hrow hn
  exact all_leaf hl hrow hn
 | succ h ih =>
  intro F w b xs ys v ⟨v0, u0, ks, hi', e⟩ hR hrow hn
  subst e
  exact all_inner ih hi' hR hrow hn
end Go.Proofs.YthipgglplneijaaGreatDoor
