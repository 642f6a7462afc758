/- The book of one table: Tables, entries, taken. book.Prune and store.Prune where nothing is dead. CreateIndex of a book of one table. A tree more; a row of numbers that grows. A store of one table: table, Book, Used, Entries. StoreFirst's plain invariants. The laws' own small functions: num, one. The store laws' awake: the document's example. StoreFirst: of those that change the same row the first one does. The broom in memory: idle, at a table, behind the last one. store.Release: the versions at these places go, where they are dead. slices. No condition. -/
import Derived.Test.YtnidjfjkodingaaGreatDoorBd4
import Derived.Deep.CutBlock
set_option linter.unusedVariables false
set_option linter.unusedSimpArgs false
set_option maxRecDepth 100000
set_option maxHeartbeats 8000000
namespace Go.Lap
section
open Go.RowKit
def Z07 (ps : List Nat) (ds : List Bool) (k : Nat) : List Nat := (((ps.zip ds).take k).filter (fun z => !z.2)).map (fun z => z.1)
theorem Z2B {ps : List Nat} {ds : List Bool} {k p : Nat} {d : Bool} (hp : ps[k]? = some p) (hd : ds[k]? = some d) : Z07 ps ds (k + 1) = Z07 ps ds k ++ (if d = true then [] else [p]) := by
 unfold Z07
 have hz : (ps.zip ds)[k]? = some (p, d) := by rw [List.getElem?_zip_eq_some]; exact ⟨hp, hd⟩
 rw [List.take_add_one, hz, List.filter_append, List.map_append]
 congr 1
 cases d <;> simp
theorem Z3a {ps : List Nat} {ds : List Bool} {k : Nat} (h : ∀ j : Nat, j < k -> ds[j]? = some false) (hl : ps.length = ds.length) (hk : k <= ps.length) : Z07 ps ds k = ps.take k := by
 unfold Z07
 rw [List.filter_eq_self.2 (fun z hz => ?_)]
 ·rw [List.map_take, List.map_fst_zip (by omega)]
 ·obtain ⟨i, hi⟩ := List.mem_iff_getElem?.1 hz
  have hlt := (zi.1 hi).1
  rw [List.length_take] at hlt
  rw [List.getElem?_take_of_lt (by omega), List.getElem?_zip_eq_some] at hi
  have := h i (by omega)
  rw [hi.2] at this
  injection this with this
  rw [this]
  rfl
theorem Z7q (cur : Array Value) (o : Nat) (xs : List Value) {x : Nat} (hx : x < o) (hf : o + xs.length <= cur.size) : (laid cur o xs)[x]? = cur[x]? := by
 rw [<- Array.getElem?_toList, Z3X, List.append_assoc, List.getElem?_append_left (by rw [List.length_take, Array.length_toList]; omega), List.getElem?_take_of_lt hx, Array.getElem?_toList]
theorem Z5r {P : Program} (w : World) (t e : TypeId) (ht : P.underlying t = some (.slice e)) (hv : ∀ w, (zeroValue e).run P w = .ok (.pointer none) w) {g o d c : Nat} {cur : Array Value} (hg : w.heap[g]? = some (.cells cur e (0, 0))) (hfit : o + (d + 1) <= cur.size) :
  ∃ w', (∀ ty, (Builtin.clear_ #[t] ty #[.slice (some ⟨g, o, none⟩) (d + 1) c]).run P w = .ok (.tuple #[]) w') /\ w'.heap[g]? = some (.cells (laid cur o (List.replicate (d + 1) (.pointer none))) e (0, 0)) /\ Z0 (· = g) w w' := by
 have hzc : (Builtin.zeroCells #[Value.pointer none] (d + 1)).toList = List.replicate (d + 1) (.pointer none) := by
  simp only [Builtin.zeroCells, Array.toList_map, Array.toList_range]
  apply List.ext_getElem
  ·simp
  ·intro i h1 h2
   simp [Nat.mod_one]
 have hst := run_storeCells_at (P := P) g o e (List.replicate (d + 1) (.pointer none)) 0 cur w hg (by simpa using hfit) (fun u hu => by rw [List.eq_of_mem_replicate hu]; rfl)
 simp only [Nat.add_zero] at hst
 refine ⟨_, fun ty => ?_, setRow_heap w g cur _ e (0, 0) hg, (Z0.refl _ _).setRow g _ (fun _ => rfl)⟩
 have hc1 : (Value.pointer none).cells = #[Value.pointer none] := rfl
 simp only [List.length_replicate] at hst
 simp [Builtin.clear_, run_underlying ht, hv, hc1, hzc, hst, laid]
end
structure EB where
 id : Nat
 name : ByteArray
 xmin : Nat
 xmax : Nat
 rest : List Go.Value
 ty : Go.TypeId
def Z3k (L : List Nat) (y : Zo) (tid : Nat) (x : IE) : Bool := decide (x.table = tid) && Z1V L y x.xmin x.xmax
def Z40 (L : List Nat) (y : Zo) (t : TE) (I : List IE) : Bool := decide (freeS L y t.xmin t.xmax = 0) && (I.filter (Z3k L y t.id)).all (fun x => decide (freeS L y x.xmin x.xmax = 0))
def Z4Z (L : List Nat) (y : Zo) (tid : Nat) (x : IE) : IE := if Z3k L y tid x then { x with xmax := y.own } else x
def Z14 (L : List Nat) (hz : Nat) (t : TE) : Bool := Z0v L t.xmin t.xmax hz
def Zn (L : List Nat) (hz : Nat) (T : List TE) : List Nat := (T.filter (Z14 L hz)).map (fun t => t.id)
def Z1l (L : List Nat) (hz : Nat) (ts : List Nat) (x : IE) : Bool := Z0v L x.xmin x.xmax hz || decide (x.table ∈ ts)
def Z0x (L : List Nat) (hz : Nat) (ts : List Nat) (I : List IE) : List Nat := (I.filter (Z1l L hz ts)).map (fun x => x.id)
def Z15 {α : Type} (f : α -> Bool) (ps : List Nat) (T : List α) : List (Nat × α) := (ps.zip T).filter (fun z => !f z.2)
theorem Z8Q {α : Type} (f : α -> Bool) {ps : List Nat} {T : List α} {n : Nat} (h : ps.length = n) (h2 : T.length = n) : Z07 ps (T.map f) n = (Z15 f ps T).map (fun z => z.1) := by
 unfold Z07 Z15
 rw [List.zip_map_right, List.take_of_length_le (by simp [h, h2]), List.filter_map, List.map_map]
 rfl
theorem Z4j {α : Type} (f : α -> Bool) {ps : List Nat} {T : List α} (h : ps.length = T.length) : T.filter (fun t => !f t) = (Z15 f ps T).map (fun z => z.2) := by
 unfold Z15
 have e : T = (ps.zip T).map (fun z => z.2) := (List.map_snd_zip (by omega)).symm
 conv => lhs; rw [e]
 rw [List.filter_map]
 rfl
theorem Zal {α : Type} {f : α -> Bool} {ps : List Nat} {T : List α} {z : Nat × α} (h : z ∈ Z15 f ps T) : f z.2 = false /\ ∃ j : Nat, ps[j]? = some z.1 /\ T[j]? = some z.2 := by
 obtain ⟨h1, h2⟩ := List.mem_filter.1 h
 obtain ⟨j, hj⟩ := List.mem_iff_getElem?.1 h1
 rw [List.getElem?_zip_eq_some] at hj
 exact ⟨by simpa using h2, j, hj⟩
end Go.Lap
namespace Go.Proofs.YtnidjfjkodingaaGreatDoor
open Go.RowKit Go.Lap
theorem Z8N {w : World} {S : Nat -> Prop} {size n : Nat} {A : Option Addr} {xs : List Value} (h : Rd w S size A n xs) : Rd w (fun k => S k /\ k < w.heap.size) size A n xs :=
 ⟨h.len, fun h0 => by
   obtain ⟨b, off, e, hb, hc⟩ := h.cells h0
   exact ⟨b, off, e, ⟨hb, Ze (hc 0 _ (zg h0))⟩, hc⟩⟩
def Z6C (t : TE) (A : Option Addr) (c : Nat) : List Value := [.int .u64 (t.id : Int), .string t.name, .slice A t.cols.length c, .int .u64 (t.xmin : Int), .int .u64 (t.xmax : Int)]
theorem Zgi : Z05 Tryz.prog 61 98 5 64 := Z05.mk' (.agg #[.int .u64 0, .string ⟨#[]⟩, .slice none 0 0, .int .u64 0, .int .u64 0]) Tryz.underlying61 (by kernel_rfl) rfl (by decide)
theorem Zah : Z05 Tryz.prog 207 206 1 8 := Z05.mk' (.pointer none) Tryz.underlying207 (by kernel_rfl) rfl (by decide)
theorem ZbR (p : Nat) : ∀ u ∈ [ptrV p], u.oneCell' = true := by
 intro u hu
 rw [List.mem_singleton] at hu
 rw [hu]
 rfl
theorem ZhJ (t : TE) (A : Option Addr) (c : Nat) : ∀ u ∈ Z6C t A c, u.oneCell' = true := by
 intro u hu
 simp [Z6C] at hu
 rcases hu with rfl | rfl | rfl | rfl | rfl <;> rfl
structure Z4L (w wr : World) (t : TE) (b : Nat) (A : Option Addr) (c : Nat) : Prop where
 quiet : Quiet w wr
 new : w.heap.size <= b /\ b < wr.heap.size
 cells : wr.cell? ⟨b, 0, none⟩ = some (.int .u64 (t.id : Int)) /\ wr.cell? ⟨b, 1, none⟩ = some (.string t.name) /\ wr.cell? ⟨b, 2, none⟩ = some (.slice A t.cols.length c) /\ wr.cell? ⟨b, 3, none⟩ = some (.int .u64 (t.xmin : Int)) /\ wr.cell? ⟨b, 4, none⟩ = some (.int .u64 (t.xmax : Int))
 cols : Rd wr (fun k => w.heap.size <= k /\ k < wr.heap.size) 2 A t.cols.length (ZP t.cols) /\ t.cols.length <= c /\ c <= maxLen
theorem Z4L.quietly {w wr w' : World} {t : TE} {b c : Nat} {A : Option Addr} (h : Z4L w wr t b A c) (hq : Quiet wr w') : Z4L w w' t b A c :=
 ⟨h.quiet.trans hq, ⟨h.new.1, Nat.lt_of_lt_of_le h.new.2 hq.size⟩, ⟨hq.cell h.cells.1 (fun x => x), hq.cell h.cells.2.1 (fun x => x), hq.cell h.cells.2.2.1 (fun x => x), hq.cell h.cells.2.2.2.1 (fun x => x), hq.cell h.cells.2.2.2.2 (fun x => x)⟩,
   (h.cols.1.kept hq (fun _ _ x => x)).mono (fun k x => ⟨x.1, Nat.lt_of_lt_of_le x.2 hq.size⟩), h.cols.2⟩
def ZbS (w : World) (t : TE) (e : Ending) (w' : World) : Prop := ∃ b cap A c, e = .returned (.slice (some ⟨b, 0, none⟩) 1 cap) /\ Z4L w w' t b A c
theorem ZcK {w wr w2 w4 : World} {v : Value} {t : TE} {A : Option Addr} {c : Nat} (hq : Quiet w wr) (hf : Z2G wr w2 (.slice A t.cols.length c) t.cols) (hg : ZW (w2.alloc (.cells (Z6C t A c).toArray 98)) w4 98 5 (.slice none 0 0) v (0 + 1) ([] ++ Z6C t A c)) : ∃ b cap, v = .slice (some ⟨b, 0, none⟩) 1 cap /\ Z4L w w4 t b A c := by
 have hown := hg.own
 have hqa : Quiet w2 (w2.alloc (.cells (Z6C t A c).toArray 98)) := (Z0.refl (fun _ => False) w2).alloc _
 have hon : Quiet (w2.alloc (.cells (Z6C t A c).toArray 98)) w4 := hg.only.mono (fun k _ e => by cases e)
 rcases ZJ hown with ⟨_, e⟩ | ⟨b, cap, rfl, _, _⟩
 ·omega
 obtain ⟨cb, hcb⟩ := Zj hown (k := b) rfl
 have hq2 := hf.quiet
 obtain ⟨A', c', e', hc1, hc2, hrd⟩ := Z9 hf.own
 injection e' with e1 _ e2
 subst e1 e2
 have hbl : w.heap.size <= b := by
  rcases hg.loc with y | y
  ·cases y
  ·have e : (Value.slice (some ⟨b, 0, none⟩) (0 + 1) cap).ownBlock = some b := rfl
   rw [y] at e
   injection e with e
   have s1 := hq.size
   have s2 := hq2.size
   have s3 := hqa.size
   omega
 have c0 := hown.cells (by rfl) 0 (.int .u64 (t.id : Int)) rfl
 have c1 := hown.cells (by rfl) 1 (.string t.name) rfl
 have c2 := hown.cells (by rfl) 2 (.slice A t.cols.length c) rfl
 have c3 := hown.cells (by rfl) 3 (.int .u64 (t.xmin : Int)) rfl
 have c4 := hown.cells (by rfl) 4 (.int .u64 (t.xmax : Int)) rfl
 rw [Zq, Nat.zero_add] at c0 c1 c2 c3 c4
 refine ⟨b, cap, rfl, ((hq.trans hq2).trans hqa).trans hon, ⟨hbl, Z2 hcb⟩, ⟨c0, c1, c2, c3, c4⟩, ?_, hc1, hc2⟩
 refine (((Z8N hrd).kept hqa (fun _ _ x => x)).kept hon (fun _ _ x => x)).mono (fun k x => ⟨Nat.le_trans hq.size (hf.new k x.1), Nat.lt_of_lt_of_le x.2 (Nat.le_trans hqa.size hon.size)⟩)
theorem Z8O {w : World} {F : Nat -> Prop} {bb last : Nat} {t : TE} {I : List IE} (h : ZG w F bb [t] I last) :
  Calls Tryz.prog 56 #[ptrV bb] w (ZbS w t) := by
 obtain ⟨vT, tps, vI, ips, h, h2, h3⟩ := h
 obtain ⟨c0, _, _⟩ := h.cells
 obtain ⟨A, c, hv, hc, hm, hf⟩ := Z1G h.rowT
 subst hv
 obtain ⟨tb, htp, hta⟩ := h.tbl 0 t rfl
 obtain ⟨g, rfl, hg⟩ := hf 0 tb htp
 have HG := zh hg
 have HTA := zh hta
 have lbb := Z2 h.box
 obtain ⟨Z8, Z6⟩ : ∃ Z8, ZbS w t = Z8 := ⟨_, rfl⟩
 rw [Z6]
 have Zb := zh Z6
 unfold maxLen at hm
 rw [show ([t] : List TE).length = 1 from rfl] at c0 hc
 clear h h2 h3 hf Z6 htp hta hg
 go_enter Tryz.func56, Tryz.ntmps56
 go_wp2
 go_loopw [13, 3, 5] (fun i v _ wr => Quiet w wr /\ ((i = .int .i64 0 /\ v = .slice none 0 0) ∨ ∃ b cap A c, i = .int .i64 1 /\ v = .slice (some ⟨b, 0, none⟩) 1 cap /\ Z4L w wr t b A c)) (fun i _ _ _ => 1 - (intOf i).toNat)
 case atStart => exact ⟨Z0.refl _ _, Or.inl ⟨rfl, rfl⟩⟩
 case round =>
  obtain ⟨hq, hrel⟩ := hrel
  have HQ := zh hq
  rcases hrel with ⟨rfl, rfl⟩ | ⟨b, cap, A2, c2, rfl, rfl, hO⟩
  ·have hg2 := hq.cell HG.out (fun x => x)
   have HTO := zh (Z8p (HTA.out.kept hq (fun _ _ x => x)))
   have lg := Ze hg2
   dsimp only at lg
   clear hq
   go_wp2_with fail
   refine HTO.out.mono ?_
   rintro e w2 ⟨A2, c2, rfl, hf2⟩
   have HF2 := zh hf2
   have HRD := zh (Rd.new w2 5 1 (Z6C t A2 c2) 98 (fun _ => True) rfl trivial)
   have HOWN := zh (World.ownsRow_nil (w2.alloc (.cells (Z6C t A2 c2).toArray 98)) 0 98 5)
   clear hf2 HTO hg2
   unfold Z06
   go_wp2_with (at_builtin; refine app Zgi rfl (.tmp 17) (.tmp 20) rfl rfl HOWN.out rfl HRD.out (ZhJ t A2 c2) (by unfold maxLen; omega) (by omega) ?_)
   intro v4 w4 hg4
   obtain ⟨b4, cap4, rfl, hO4⟩ := ZcK HQ.out HF2.out hg4
   have HO4 := zh hO4
   clear hg4 hO4 HRD HOWN HF2
   go_wp2
   go_roundw
   case rel => exact ⟨HO4.out.quiet, Or.inr ⟨b4, cap4, A2, c2, rfl, rfl, HO4.out⟩⟩
   case measure => simp [intOf]
  ·have Zc : Hid (Z8 (.returned (.slice (some ⟨b, 0, none⟩) 1 cap)) wr) := by
    rw [<- Zb.out]
    exact ⟨b, cap, A2, c2, rfl, hO⟩
   clear hO hq
   go_wp2
   exact Zc.out
def ZbT (w : World) (tb : Nat) (e : Ending) (w' : World) : Prop := ∃ b cap, e = .returned (.slice (some ⟨b, 0, none⟩) 1 cap) /\ Quiet w w' /\ w.heap.size <= b /\ w'.cell? ⟨b, 0, none⟩ = some (ptrV tb)
theorem ZbU {w wr w4 : World} {v : Value} {tb : Nat} (hq : Quiet w wr) (hg : ZW (wr.alloc (.cells [ptrV tb].toArray 206)) w4 206 1 (.slice none 0 0) v (0 + 1) ([] ++ [ptrV tb])) : ∃ b cap, v = .slice (some ⟨b, 0, none⟩) 1 cap /\ Quiet w w4 /\ w.heap.size <= b /\ w4.cell? ⟨b, 0, none⟩ = some (ptrV tb) := by
 have hown := hg.own
 have hqa : Quiet wr (wr.alloc (.cells [ptrV tb].toArray 206)) := (Z0.refl (fun _ => False) wr).alloc _
 have hon : Quiet (wr.alloc (.cells [ptrV tb].toArray 206)) w4 := hg.only.mono (fun k _ e => by cases e)
 rcases ZJ hown with ⟨_, e⟩ | ⟨b, cap, rfl, _, _⟩
 ·omega
 have hbl : w.heap.size <= b := by
  rcases hg.loc with y | y
  ·cases y
  ·have e : (Value.slice (some ⟨b, 0, none⟩) (0 + 1) cap).ownBlock = some b := rfl
   rw [y] at e
   injection e with e
   have s1 := hq.size
   have s3 := hqa.size
   omega
 have c0 := hown.cells (by rfl) 0 (ptrV tb) rfl
 rw [Zq, Nat.zero_add] at c0
 exact ⟨b, cap, rfl, (hq.trans hqa).trans hon, hbl, c0⟩
theorem ZcL {w : World} {F : Nat -> Prop} {bb last tb : Nat} {t : TE} {vT vI : Value} (h : Z0c w F bb [t] vT [tb] vI [] last) :
  Calls Tryz.prog 107 #[ptrV bb] w (ZbT w tb) := by
 obtain ⟨c0, c1, _⟩ := h.cells
 obtain ⟨A, c, hv, hc, hm, hf⟩ := Z1G h.rowT
 obtain ⟨A', c', hv', hc', hm', _⟩ := Z1G h.rowI
 subst hv hv'
 obtain ⟨tb', htp, hta⟩ := h.tbl 0 t rfl
 obtain rfl : tb = tb' := by simpa using htp
 obtain ⟨g, rfl, hg⟩ := hf 0 tb rfl
 have HG := zh hg
 have HTA : Hid (tb < w.heap.size) := by obtain ⟨_, _, hb, _⟩ := hta.ex; exact Z2 hb
 have HB := zh h.box
 have lbb := Z2 h.box
 obtain ⟨Z8, Z6⟩ : ∃ Z8, ZbT w tb = Z8 := ⟨_, rfl⟩
 rw [Z6]
 have Zb := zh Z6
 unfold maxLen at hm hm'
 rw [show ([t] : List TE).length = 1 from rfl] at c0 hc HB
 rw [show ([] : List Nat).length = 0 from rfl] at c1 HB
 clear h hf Z6 htp hta hg hc'
 go_enter Tryz.func107, Tryz.ntmps107
 go_wp2
 go_loopw [13, 3, 5] (fun i v _ wr => Quiet w wr /\ ((i = .int .i64 0 /\ v = .slice none 0 0) ∨ ∃ b cap, i = .int .i64 1 /\ v = .slice (some ⟨b, 0, none⟩) 1 cap /\ w.heap.size <= b /\ wr.cell? ⟨b, 0, none⟩ = some (ptrV tb))) (fun i _ _ _ => 1 - (intOf i).toNat)
 case atStart => exact ⟨Z0.refl _ _, Or.inl ⟨rfl, rfl⟩⟩
 case round =>
  obtain ⟨hq, hrel⟩ := hrel
  have HQ := zh hq
  rcases hrel with ⟨rfl, rfl⟩ | ⟨b, cap, rfl, rfl, hb, hcell⟩
  ·have hg2 := hq.cell HG.out (fun x => x)
   have lg := Ze hg2
   dsimp only at lg
   have HRD := zh (Rd.new wr 1 1 [ptrV tb] 206 (fun _ => True) rfl trivial)
   have HOWN := zh (World.ownsRow_nil (wr.alloc (.cells [ptrV tb].toArray 206)) 0 206 1)
   clear hq
   go_wp2_with (at_builtin; refine app Zah rfl (.tmp 17) (.tmp 21) rfl rfl HOWN.out rfl HRD.out (ZbR tb) (by unfold maxLen; omega) (by omega) ?_)
   intro v4 w4 hg4
   obtain ⟨b4, cap4, rfl, q4, l4, c4⟩ := ZbU HQ.out hg4
   have HO4 := zh (And.intro q4 (And.intro l4 c4))
   clear hg4 q4 l4 c4 HRD HOWN hg2
   go_wp2
   go_roundw
   case rel => exact ⟨HO4.out.1, Or.inr ⟨b4, cap4, rfl, rfl, HO4.out.2.1, HO4.out.2.2⟩⟩
   case measure => simp [intOf]
  ·have HO := zh (And.intro hb hcell)
   have hbx := hq.get HB.out (fun x => x)
   have d1 : wr.cell? ⟨bb, 1, none⟩ = some (.slice A' 0 c') := by rw [Z1 hbx]; rfl
   have lbb2 := Ze d1
   dsimp only at lbb2
   clear hq hb hcell hbx c0 c1 lbb
   go_wp2
   go_loopw [29, 3, 7] (fun i v _ wr2 => wr2 = wr /\ i = .int .i64 0 /\ v = .slice (some ⟨b, 0, none⟩) 1 cap) (fun _ _ _ _ => 0)
   case atStart => exact ⟨rfl, rfl, rfl⟩
   case round =>
    obtain ⟨rfl, rfl, rfl⟩ := hrel
    have Zc : Hid (Z8 (.returned (.slice (some ⟨b, 0, none⟩) 1 cap)) wr) := by
     rw [<- Zb.out]
     exact ⟨b, cap, rfl, HQ.out, HO.out.1, HO.out.2⟩
    go_wp2
    exact Zc.out
theorem Zgj {w : World} {F : Nat -> Prop} {bb lb last c tb : Nat} {A : Option Addr} {s : Zo} {t : TE} {name : ByteArray} {vT vI : Value} (h : Z0c w F bb [t] vT [tb] vI [] last) (hne : (t.name.toList == name.toList) = false) :
  Calls Tryz.prog 64 #[.pointer (some ⟨bb, 0, none⟩), .pointer (some ⟨lb, 0, none⟩), Zk s A c, .string name] w fun e w' => e = .returned (.int .i64 0) /\ Quiet w w' := by
 have HQ0 : Hid (Quiet w (w.alloc (.cells (snapCells s A c) 84))) := (Z0.refl _ _).alloc _
 have HE := zh (ZcL (h.kept HQ0.out (fun _ _ x => x)))
 obtain ⟨tb', htp, hta⟩ := h.tbl 0 t rfl
 obtain rfl : tb = tb' := by simpa using htp
 have HTA := zh hta
 obtain ⟨Z8, Z6⟩ : ∃ Z8 : Ending -> World -> Prop, (fun e w' => e = .returned (.int .i64 0) /\ Quiet w w') = Z8 := ⟨_, rfl⟩
 rw [Z6]
 have Zb := zh Z6
 unfold Zk
 clear h Z6 htp hta
 go_enter Tryz.func64, Tryz.ntmps64
 go_wp2_with fail
 refine HE.out.mono ?_
 rintro e w1 ⟨b, cap, rfl, hq1, hb1, hc1⟩
 have HQ1 := zh (HQ0.out.trans hq1)
 have HC1 := zh hc1
 clear HE hq1 hb1 hc1
 go_wp2
 go_loopw [15, 9, 11, 17, 18, 19, 20, 21, 22, 23, 24, 25] (fun i cd _ _ _ _ _ _ _ _ _ _ wr => Quiet w1 wr /\ cd = .int .i64 0 /\ (i = .int .i64 0 ∨ i = .int .i64 1)) (fun i _ _ _ _ _ _ _ _ _ _ _ _ => 1 - (intOf i).toNat)
 case atStart => exact ⟨Z0.refl _ _, rfl, Or.inl rfl⟩
 case round =>
  obtain ⟨hq, rfl, hrel⟩ := hrel
  have HQ := zh hq
  rcases hrel with rfl | rfl
  ·have k0 := hq.cell HC1.out (fun x => x)
   have lg := Ze k0
   dsimp only at lg
   have k1 := (HTA.out.kept (HQ1.out.trans hq) (fun _ _ x => x)).ent.c1
   clear hq
   go_wp2
   go_roundw
   case rel => exact ⟨HQ.out, rfl, Or.inr rfl⟩
   case measure => simp [intOf]
  ·have Zc : Hid (Z8 (.returned (.int .i64 0)) wr) := by
    rw [<- Zb.out]
    exact ⟨rfl, HQ1.out.trans HQ.out⟩
   clear hq
   go_wp2
   exact Zc.out
theorem ZeE (w : World) (o1 o2 o3 o4 : Obj) : Quiet w ((((w.alloc o1).alloc o2).alloc o3).alloc o4) /\ ((((w.alloc o1).alloc o2).alloc o3).alloc o4).heap[w.heap.size]? = some o1 /\ ((((w.alloc o1).alloc o2).alloc o3).alloc o4).heap[w.heap.size + 1]? = some o2 /\ ((((w.alloc o1).alloc o2).alloc o3).alloc o4).heap[w.heap.size + 1 + 1]? = some o3 /\ ((((w.alloc o1).alloc o2).alloc o3).alloc o4).heap[w.heap.size + 1 + 1 + 1]? = some o4 := by
 have h2 := Z5 (w.alloc o1) o2
 have h3 := Z5 ((w.alloc o1).alloc o2) o3
 have h4 := Z5 (((w.alloc o1).alloc o2).alloc o3) o4
 simp only [World.size_alloc] at h2 h3 h4
 exact ⟨((((Z0.refl _ _).alloc _).alloc _).alloc _).alloc _, Zd (Zd (Zd (Z5 w o1) o2) o3) o4, Zd (Zd h2 o3) o4, Zd h3 o4, h4⟩
def Z2v (s : St) (hz : Nat) : Prop := (∀ t ∈ s.T, Z0v s.L t.xmin t.xmax hz = false) /\ ∀ x ∈ s.I, Z0v s.L x.xmin x.xmax hz = false
theorem Zgk {w : World} {cb kd : Nat} {nm : ByteArray} (hc : w.cell? ⟨cb, 0, none⟩ = some (.string nm)) :
  Calls Tryz.prog 70 #[.agg #[.string nm, .int .u8 (kd : Int)], ptrV cb] w (Z0p w true) := by
 have hl := Ze hc
 dsimp only at hl
 have hne : ¬ cb = w.heap.size := by omega
 go_enter Tryz.func70, Tryz.ntmps70
 go_wp2
 go_ret
 exact ⟨rfl, (Z0.refl _ _).alloc _⟩
theorem Zgl {w : World} {S : Nat -> Prop} {A : Option Addr} {c kd cb : Nat} {nm : ByteArray} (hr : Rd w S 2 A 1 (ZP [(nm, kd)])) (hc : 1 <= c) (hm : c <= maxLen) (hcb : w.cell? ⟨cb, 0, none⟩ = some (.string nm)) :
  Calls Tryz.prog 69 #[.slice A 1 c, .func (.func 70) #[] #[ptrV cb]] w fun e w' => e = .returned (.int .i64 0) /\ Quiet w w' := by
 obtain ⟨b, off, rfl, _, hcs⟩ := hr.at_ (k := 0) (by omega) (by omega)
 obtain ⟨u0, h0, c0⟩ := hcs 0 (by omega)
 obtain ⟨u1, h1, c1⟩ := hcs 1 (by omega)
 obtain rfl : Value.string nm = u0 := Option.some.inj h0
 obtain rfl : Value.int .u8 (kd : Int) = u1 := Option.some.inj h1
 simp only [Nat.zero_mul, Nat.add_zero, Nat.zero_add] at c0 c1
 have HC := zh hcb
 have hb := Ze c0
 dsimp only at hb
 unfold maxLen at hm
 clear hr hcs h0 h1 hcb
 go_enter Tryz.func69, Tryz.ntmps69
 go_wp2
 refine wp_loop_rounds 2 ?_
 rw [rounds_succ]
 go_wp2_with fail
 refine (Zgk (kd := kd) HC.out).mono ?_
 rintro e w1 ⟨rfl, hq1⟩
 have HQ1 := zh hq1
 clear hq1
 go_wp2
 go_ret
 exact ⟨rfl, HQ1.out⟩
theorem Z0c.indexed {w5 w7 : World} {F : Nat -> Prop} {bb last tb : Nat} {vT vI v7 : Value} {t : TE} {e : IE} (h : Z0c w5 F bb [t] vT [tb] vI [] last)
  (hn : U64 e.id /\ U64 e.xmin /\ U64 e.xmax /\ U64 e.table /\ e.column < 8)
  (hg : ZW ((w5.alloc (.cells #[.int .u64 (e.id : Int), .string e.name, .int .u64 (e.xmin : Int), .int .u64 (e.xmax : Int), .int .u64 (e.table : Int), .int .i64 (e.column : Int)] 161)).alloc (.cells #[ptrV w5.heap.size] 159)) w7 159 1 vI v7 1 [ptrV w5.heap.size]) :
  ZG (w7.setCell ⟨bb, 1, none⟩ v7) (fun k => F k ∨ w5.heap.size <= k) bb [t] [e] last /\ Z0 F w5 (w7.setCell ⟨bb, 1, none⟩ v7) /\ Z1y (w7.setCell ⟨bb, 1, none⟩ v7) (fun k => F k ∨ w5.heap.size <= k) w5.heap.size e := by
 have hvi : ∀ k, vI.ownBlock = some k -> F k /\ k < w5.heap.size /\ k ≠ bb /\ ∃ c, w5.heap[k]? = some (.cells c 159 (0, 0)) := fun k e => by
  obtain ⟨c, hh⟩ := Zj h.rowI e
  exact ⟨h.foot.2.2 k e, Z2 hh, (Za h.box hh (by decide)).symm, c, hh⟩
 have hvt : ∀ k, vT.ownBlock = some k -> k < w5.heap.size /\ k ≠ bb /\ vI.ownBlock ≠ some k := fun k e => by
  obtain ⟨c, hh⟩ := Zj h.rowT e
  refine ⟨Z2 hh, (Za h.box hh (by decide)).symm, fun x => ?_⟩
  obtain ⟨_, _, _, c', hh'⟩ := hvi k x
  exact absurd rfl (Za hh hh' (by decide))
 have hl := Z2 h.box
 have hq : Quiet w5 ((w5.alloc (.cells #[.int .u64 (e.id : Int), .string e.name, .int .u64 (e.xmin : Int), .int .u64 (e.xmax : Int), .int .u64 (e.table : Int), .int .i64 (e.column : Int)] 161)).alloc (.cells #[ptrV w5.heap.size] 159)) := ((Z0.refl _ _).alloc _).alloc _
 have b4 := hg.only.get (hq.get h.box (fun x => x)) (fun e => (hvi bb e).2.2.1 rfl)
 have hx7 := hg.only.get (Zd (Z5 w5 (.cells #[.int .u64 (e.id : Int), .string e.name, .int .u64 (e.xmin : Int), .int .u64 (e.xmax : Int), .int .u64 (e.table : Int), .int .i64 (e.column : Int)] 161)) (.cells #[ptrV w5.heap.size] 159)) (fun e => by have := (hvi _ e).2.1; omega)
 have ho : Z0 (· = bb) w7 (w7.setCell ⟨bb, 1, none⟩ v7) := (Z0.refl (· = bb) w7).setCell (p := ⟨bb, 1, none⟩) (fun _ => rfl) v7
 have hne : ¬ w5.heap.size = bb := by omega
 have hv7 : ∀ k, v7.ownBlock = some k -> (F k ∨ w5.heap.size <= k) /\ k ≠ bb := fun k e => by
  rcases hg.loc with x | x
  ·rw [x] at e; exact ⟨Or.inl (hvi k e).1, (hvi k e).2.2.1⟩
  ·rw [x] at e; injection e with e; simp only [World.size_alloc] at e; exact ⟨Or.inr (by omega), by omega⟩
 have xb := ho.get hx7 hne
 have hIX : Z1y (w7.setCell ⟨bb, 1, none⟩ v7) (fun k => F k ∨ w5.heap.size <= k) w5.heap.size e := ⟨xb, Or.inr (Nat.le_refl _), hn⟩
 refine ⟨⟨vT, [tb], v7, [w5.heap.size], ⟨?_, ?_, ?_, ?_, ⟨Or.inl h.foot.1, fun k e => Or.inl (h.foot.2.1 k e), fun k e => (hv7 k e).1⟩, h.num⟩, rfl, ?_⟩, ?_, hIX⟩
 ·rw [Zf b4]; rfl
 ·exact Z4 (Z4 (Z4 h.rowT hq (fun _ _ x => x)) hg.only (fun k e x => (hvt k e).2.2 x)) ho (fun k e x => (hvt k e).2.1 x)
 ·exact Z4 hg.own ho (fun k e x => (hv7 k e).2 x)
 ·intro i t' hi
  rcases i with _ | i
  ·simp at hi
   subst hi
   obtain ⟨p, hp, ht⟩ := h.tbl 0 t rfl
   obtain rfl : tb = p := by simpa using hp
   obtain ⟨A', c', t1, t2⟩ := ht.typ
   obtain ⟨A, c, hb, hr, hc⟩ := ht.ex
   have e0 := hb.symm.trans t1
   injection e0 with e0
   injection e0 with e0 _ _
   injection e0 with e0
   injection e0 with _ e0
   injection e0 with _ e0
   injection e0 with _ e0
   injection e0 with _ e0
   injection e0 with e0 _
   injection e0 with eA _ eC
   subst eA eC
   have g1 : tb ≠ bb := Za hb h.box (by decide)
   have g2 : ∀ k, vI.ownBlock = some k -> tb ≠ k := fun k e => by
    obtain ⟨_, _, _, c', hh'⟩ := hvi k e
    exact Za hb hh' (by decide)
   have k1 : ∀ g, (Value.slice A t.cols.length c).ownBlock = some g -> g ≠ bb /\ vI.ownBlock ≠ some g := fun g e => by
    obtain ⟨cur, hh⟩ := (t2 g e).2
    refine ⟨Za hh h.box (by decide), fun x => ?_⟩
    obtain ⟨_, _, _, c', hh'⟩ := hvi g x
    exact absurd rfl (Za hh hh' (by decide))
   have tow : ∀ k x, w5.heap[k]? = some x -> k ≠ bb -> vI.ownBlock ≠ some k -> (w7.setCell ⟨bb, 1, none⟩ v7).heap[k]? = some x := fun k x hx a b => ho.get (hg.only.get (hq.get hx (fun x => x)) b) a
   have hb7 := tow _ _ hb g1 (fun x => g2 _ x rfl)
   refine ⟨tb, rfl, ⟨A, c, hb7, ⟨hr.len, fun h0 => ?_⟩, hc⟩, Or.inl ht.own, ht.pos, ht.num, A, c, hb7, fun g e => ⟨Or.inl (t2 g e).1, by obtain ⟨cur, hh⟩ := (t2 g e).2; exact ⟨cur, tow _ _ hh (k1 g e).1 (k1 g e).2⟩⟩⟩
   obtain ⟨b, off, e1, hb1, hcell⟩ := hr.cells h0
   subst e1
   refine ⟨b, off, rfl, Or.inl hb1, fun j u hu => ?_⟩
   have k2 := k1 b rfl
   exact ho.cell (hg.only.cell (hq.cell (hcell j u hu) (fun x => x)) k2.2) k2.1
  ·simp at hi
 ·intro i e' hi
  rcases i with _ | i
  ·simp at hi
   subst hi
   exact ⟨w5.heap.size, rfl, hIX⟩
  ·simp at hi
 ·exact ((hq.mono (T := F) (fun _ _ x => x.elim)).trans' hg.only (fun k _ e => (hvi k e).1)).trans' ho (fun k _ e => by subst e; exact h.foot.1)
theorem ZhK : Z05 Tryz.prog 136 159 1 8 := Z05.mk' (.pointer none) Tryz.underlying136 (by kernel_rfl) rfl (by decide)
def Zai (w : World) (F : Nat -> Prop) (bb last : Nat) (t : TE) (x : IE) (e : Ending) (w' : World) : Prop :=
 e = .returned (.tuple #[.agg (Z4F x).toArray, .int .i64 0]) /\ Z0 F w w' /\ ZG w' (fun k => F k ∨ w.heap.size <= k) bb [t] [x] (last + 1)
theorem ZcM (w : World) (o1 o2 o3 : Obj) : Quiet w (((w.alloc o1).alloc o2).alloc o3) /\ (((w.alloc o1).alloc o2).alloc o3).heap[w.heap.size]? = some o1 /\ (((w.alloc o1).alloc o2).alloc o3).heap[w.heap.size + 1]? = some o2 /\ (((w.alloc o1).alloc o2).alloc o3).heap[w.heap.size + 1 + 1]? = some o3 := by
 have h2 := Z5 (w.alloc o1) o2
 have h3 := Z5 ((w.alloc o1).alloc o2) o3
 simp only [World.size_alloc] at h2 h3
 exact ⟨(((Z0.refl _ _).alloc _).alloc _).alloc _, Zd (Zd (Z5 w o1) o2) o3, Zd h2 o3, h3⟩
theorem ZeF {w : World} {F Fl Ss : Nat -> Prop} {bb lb last c kd : Nat} {A : Option Addr} {L : List Nat} {s : Zo} {t : TE} {name of_ nm : ByteArray} (h : ZG w F bb [t] [] last) (hl : Zy w Fl lb L) (hs : Z0q w Ss A c s) (hlast : last < 1000000)
  (hc : t.cols = [(nm, kd)]) (hf : Z0w L s of_ [t] = some 0) (hnm : Z2D name) (hne : (t.name.toList == name.toList) = false) (hid : U64 t.id) (hu : U64 s.own) (hF : ∀ k, F k -> k < w.heap.size) :
  Calls Tryz.prog 33 #[ptrV bb, ptrV lb, Zk s A c, .string name, .string of_, .string nm] w (Zai w F bb last t ⟨last + 1, name, t.id, 0, s.own, 0⟩) := by
 obtain ⟨vT, tps, vI, ips, hrow, hi0, _⟩ := h
 have hips : ips = [] := List.eq_nil_of_length_eq_zero hi0
 subst hips
 obtain ⟨tb, htp, _⟩ := hrow.tbl 0 t rfl
 obtain rfl : tps = [tb] := by
  have := hrow.tlen
  rcases tps with _ | ⟨a, _ | _⟩
  ·cases this
  ·simp at htp; rw [htp]
  ·cases this
 have HROW := zh hrow
 have HLOG := zh hl
 have HSN := zh hs
 have HC := zh hc
 have HF := zh hf
 have HNUM := zh (And.intro hid hu)
 have HNM : Hid (∀ W, Calls Tryz.prog 62 #[.string name] W (Z0p W true)) := fun W => Z6j name hnm W
 have HNE := zh hne
 have HFW := zh hF
 obtain ⟨hq3, hb8, hb11, hb12⟩ := ZcM w (.cells (snapCells s A c) 84) (.cells #[.string nm] 9) (.cells #[.int .u64 0, .string ⟨#[]⟩, .int .u64 0, .int .i64 0, .int .u64 0, .int .u64 0] 92)
 obtain ⟨r8, hr8⟩ : ∃ r8, w.heap.size = r8 := ⟨_, rfl⟩
 obtain ⟨r11, hr11⟩ : ∃ r11, r8 + 1 = r11 := ⟨_, rfl⟩
 obtain ⟨r12, hr12⟩ : ∃ r12, r11 + 1 = r12 := ⟨_, rfl⟩
 rw [hr8] at hb8 hb11 hb12
 rw [hr11] at hb11 hb12
 rw [hr12] at hb12
 have HR := zh (And.intro hr8 (And.intro hr11 hr12))
 obtain ⟨Z8, Z6⟩ : ∃ Z8, Zai w F bb last t ⟨last + 1, name, t.id, 0, s.own, 0⟩ = Z8 := ⟨_, rfl⟩
 rw [Z6]
 have Zb := zh Z6
 unfold Zk
 clear hrow hl hs hc hf hnm hne hid hu hi0 htp Z6 hF
 go_enter Tryz.func33, Tryz.ntmps33
 go_wp2_with fail
 (try simp only [World.size_alloc] at *)
 (try rw [hr8]); (try rw [hr11]); (try rw [hr12])
 generalize ((w.alloc (.cells (snapCells s A c) 84)).alloc (.cells #[.string nm] 9)).alloc (.cells #[.int .u64 0, .string ⟨#[]⟩, .int .u64 0, .int .i64 0, .int .u64 0, .int .u64 0] 92) = w0 at *
 have HQ0 := zh hq3
 have HB0 := zh (And.intro hb8 (And.intro hb11 hb12))
 clear hq3 hb8 hb11 hb12 hr8 hr11 hr12
 refine (HNM.out _).mono ?_
 rintro e w1 ⟨rfl, hq1⟩
 have HQ1 := zh (HQ0.out.trans hq1)
 have HQ01 := zh hq1
 obtain ⟨s0, s1, s2, s3⟩ := Zv (hq1.get HB0.out.1 (fun x => x))
 have HTB : Hid (Calls Tryz.prog 68 #[.pointer (some ⟨bb, 0, none⟩), .pointer (some ⟨lb, 0, none⟩), Zk s A c, .string of_] w1 (Z5l w1 [tb] (Z0w L s of_ [t]))) := Z5G of_ (HROW.out.kept HQ1.out (fun _ _ x => x)) (HLOG.out.kept HQ1.out (fun _ _ x => x)) (HSN.out.kept HQ1.out (fun _ _ x => x))
 rw [HF.out] at HTB
 unfold Zk at HTB
 clear hq1 HNM
 go_wp2_with fail
 refine HTB.out.mono ?_
 rintro e w2 ⟨⟨p, hp, rfl⟩, hq2⟩
 obtain rfl : tb = p := by simpa using hp
 have HQ2 := zh (HQ1.out.trans hq2)
 have HQ02 := zh (HQ01.out.trans hq2)
 obtain ⟨_, htp2, hta⟩ := (HROW.out.kept HQ2.out (fun _ _ x => x)).tbl 0 t rfl
 obtain rfl : tb = _ := by simpa using htp2
 obtain ⟨AT, cT, hbt, hrt, hct, hmt⟩ := hta.ex
 have ct4 : w2.cell? ⟨tb, 4, none⟩ = some (.slice AT t.cols.length cT) := by rw [Z1 hbt]; rfl
 have lt4 := Ze ct4
 dsimp only at lt4
 have cc : w2.cell? ⟨r11, 0, none⟩ = some (.string nm) := by rw [Z1 (HQ02.out.get HB0.out.2.1 (fun x => x))]; rfl
 have HIX : Hid (Calls Tryz.prog 69 #[.slice AT t.cols.length cT, .func (.func 70) #[] #[ptrV r11]] w2 fun e w' => e = .returned (.int .i64 0) /\ Quiet w2 w') := by
  rw [HC.out] at hrt hct ⊢
  exact Zgl (kd := kd) hrt hct hmt cc
 clear s0 s1 s2 s3 hp hq2 htp2 hta hbt hrt hct hmt cc HTB
 go_wp2_with fail
 refine HIX.out.mono ?_
 rintro e w3 ⟨rfl, hq3⟩
 have HQ3 := zh (HQ2.out.trans hq3)
 have HQ03 := zh (HQ02.out.trans hq3)
 obtain ⟨s0, s1, s2, s3⟩ := Zv (HQ03.out.get HB0.out.1 (fun x => x))
 have HTK : Hid (Calls Tryz.prog 64 #[.pointer (some ⟨bb, 0, none⟩), .pointer (some ⟨lb, 0, none⟩), Zk s A c, .string name] w3 fun e w' => e = .returned (.int .i64 0) /\ Quiet w3 w') := Zgj (HROW.out.kept HQ3.out (fun _ _ x => x)) HNE.out
 unfold Zk at HTK
 clear ct4 lt4 hq3 HIX
 go_wp2_with fail
 refine HTK.out.mono ?_
 rintro e w4 ⟨rfl, hq4⟩
 have HQ4 := zh (HQ3.out.trans hq4)
 have HQ04 := zh (HQ03.out.trans hq4)
 have hrow4 := HROW.out.kept HQ4.out (fun _ _ x => x)
 obtain ⟨_, k1, _⟩ := hrow4.cells
 obtain ⟨AI, cI, hvI, hcI, hmI, _⟩ := Z1G hrow4.rowI
 subst hvI
 have lbb := Ze k1
 dsimp only at lbb
 have hb8 := HQ04.out.get HB0.out.1 (fun x => x)
 obtain ⟨_, htp4, hta4⟩ := hrow4.tbl 0 t rfl
 obtain rfl : tb = _ := by simpa using htp4
 obtain ⟨AT4, cT4, hbt4, _⟩ := hta4.ex
 have hne8 : r8 ≠ bb := fun e => by have := HR.out.1; have := Z2 HROW.out.box; omega
 have hnet : tb ≠ bb := Za hbt4 hrow4.box (by decide)
 have HS16 : Hid (∀ W, Z0 (· = bb) w4 W -> (fun w' => w'.cell? ⟨r8, 0, none⟩ = some (.int .u64 (s.own : Int)) /\ w'.cell? ⟨r8, 1, none⟩ = some (.int .u64 (s.xmin : Int)) /\ w'.cell? ⟨r8, 2, none⟩ = some (.int .u64 (s.xmax : Int)) /\ w'.cell? ⟨r8, 3, none⟩ = some (.slice A s.run.length c) /\ w'.cell? ⟨tb, 0, none⟩ = some (.int .u64 (t.id : Int))) W) := fun W ho => by
  obtain ⟨s0, s1, s2, s3⟩ := Zv (ho.get hb8 hne8)
  exact ⟨s0, s1, s2, s3, by rw [Z1 (ho.get hbt4 hnet)]; rfl⟩
 have HFR : Hid (∀ W, Quiet w4 W -> Calls Tryz.prog 65 #[.pointer (some ⟨bb, 0, none⟩), .agg #[.int .u64 (s.own : Int), .int .u64 (s.xmin : Int), .int .u64 (s.xmax : Int), .slice A s.run.length c], .string name] W (Z5H W F bb [t] vT [tb] (.slice AI 0 cI) [] last s.own name)) := fun W hq => Z8q (hrow4.kept hq (fun _ _ x => x)) hlast
 clear s0 s1 s2 s3 hq4 hrow4 htp4 hta4 hb8 hbt4 HTK hcI
 unfold maxLen at hmI
 go_wp2_with fail
 refine zH HS16 ((Z0.refl _ _).drew) (fun Z3 => ?_)
 have q0 : Quiet w4 w4.drew := (Z0.refl _ _).drew
 generalize w4.drew = d0 at q0 Z3 ⊢
 refine zT 0 ?_
 refine zT 1 ?_
 refine zT 2 ?_
 refine zT 4 ?_
 refine zT 5 ?_
 refine zT 6 ?_
 refine zT 7 ?_
 refine zT 8 ?_
 refine zT 9 ?_
 refine zR 3 ?_
 intro K hK
 go_simp
 go_at_call 65
 refine (HFR.out _ q0).mono ?_
 rintro e d1 ⟨rfl, ho1, hr1⟩
 dsimp only
 refine hK.out _ _ ?_ (fun Z3 => ?_)
 ·exact HS16.out _ ((q0.mono (fun _ _ x => x.elim)).trans ho1)
 clear hK K
 (try simp only [Act.put, zPA, zPZ, zPS])
 refine zT 10 ?_
 refine zR 11 ?_
 intro K hK
 go_simp
 refine hK.out _ _ ?_ (fun Z3 => ?_)
 ·exact HS16.out _ (((q0.mono (fun _ _ x => x.elim)).trans ho1).alloc _)
 clear hK K
 (try simp only [Act.put, zPA, zPZ, zPS])
 refine zT 12 ?_
 refine zD ?_
 obtain ⟨_, k1, _⟩ := hr1.cells
 have HOWN : Hid (World.ownsRow ((d1.alloc (.cells #[.int .u64 ((last : Int) + 1), .string name, .int .u64 (s.own : Int), .int .u64 0, .int .u64 (t.id : Int), .int .i64 0] 161)).alloc (.cells #[ptrV d1.heap.size] 159)) 0 159 1 (.slice AI 0 cI) 0 []) := Z4 hr1.rowI (((Z0.refl (fun _ => False) d1).alloc _).alloc _) (fun _ _ x => x)
 have HRD : Hid (Rd ((d1.alloc (.cells #[.int .u64 ((last : Int) + 1), .string name, .int .u64 (s.own : Int), .int .u64 0, .int .u64 (t.id : Int), .int .i64 0] 161)).alloc (.cells #[ptrV d1.heap.size] 159)) (fun _ => True) 1 (some ⟨d1.heap.size + 1, 0, none⟩) 1 [ptrV d1.heap.size]) := by
  have := Rd.one (d1.alloc (.cells #[.int .u64 ((last : Int) + 1), .string name, .int .u64 (s.own : Int), .int .u64 0, .int .u64 (t.id : Int), .int .i64 0] 161)) (ptrV d1.heap.size) 159 (0, 0) (S := fun _ => True) trivial
  rw [World.size_alloc] at this
  exact this
 have HQD : Hid (Z0 (· = bb) w4 d1) := (q0.mono (fun _ _ x => x.elim)).trans ho1
 have hr12 : r12 ≠ bb := fun e => by have := HR.out; have := Z2 HROW.out.box; omega
 have hb12 := HQD.out.get (HQ04.out.get HB0.out.2.2 (fun x => x)) hr12
 have HR1 := zh hr1
 have HB12 := zh (And.intro hb12 hr12)
 have lb1 := Z2 hr1.box
 have hbx1 : ¬ bb = d1.heap.size := by omega
 have hbx2 : ¬ bb = d1.heap.size + 1 := by omega
 clear Z3 q0 ho1 hr1 hb12 hr12 HS16 HFR hne8 hnet k1
 obtain ⟨_, k1, _⟩ := HR1.out.cells
 have kf := fun o => Z7 HR1.out.box o
 go_wp2_with (at_builtin; refine app ZhK rfl (.tmp 76) (.tmp 78) rfl rfl HOWN.out rfl HRD.out (Z32 [d1.heap.size]) (by unfold maxLen; omega) (by omega) ?_)
 intro v7 w7 hg7
 obtain ⟨A7, c7, hv7, _, _, _⟩ := Z9 hg7.own
 subst hv7
 have HFI := zh (HR1.out.indexed (e := ⟨last + 1, name, t.id, 0, s.own, 0⟩) ⟨by show last + 1 < 18446744073709551616; omega, HNUM.out.2, by show 0 < 18446744073709551616; omega, HNUM.out.1, by show 0 < 8; omega⟩ hg7)
 have hqa : Quiet d1 ((d1.alloc (.cells #[.int .u64 ((last : Int) + 1), .string name, .int .u64 (s.own : Int), .int .u64 0, .int .u64 (t.id : Int), .int .i64 0] 161)).alloc (.cells #[ptrV d1.heap.size] 159)) := ((Z0.refl _ _).alloc _).alloc _
 have b7 := hg7.only.get (hqa.get HR1.out.box (fun x => x)) (fun e => by
   obtain ⟨c, hh⟩ := Zj HR1.out.rowI e
   exact absurd rfl (Za HR1.out.box hh (by decide)))
 have r7 := hg7.only.get (hqa.get HB12.out.1 (fun x => x)) (fun e => by
   obtain ⟨c, hh⟩ := Zj HR1.out.rowI e
   exact absurd rfl (Za HB12.out.1 hh (by decide)))
 have r8_ := ((Z0.refl (· = bb) w7).setCell (p := ⟨bb, 1, none⟩) (fun _ => rfl) (.slice A7 (0 + 1) c7)).get r7 HB12.out.2
 have HB8 := zh r8_
 have s1 := Z1 b7 1
 have sf := fun o => Z7 b7 o
 simp only [zGA, zGS, zGZ] at s1
 have lb7 := Z2 b7
 have HTO := zh (Z8E HFI.out.2.2)
 clear hg7 hqa b7 r7 r8_ HOWN HRD k1 kf hbx1 hbx2
 simp only [Nat.zero_add] at HFI HB8 HTO
 go_wp2_with fail
 (try simp only [Nat.zero_add])
 refine HTO.out.mono ?_
 rintro e w9 ⟨rfl, hq9⟩
 have hb9 := hq9.get HB8.out (fun x => x)
 obtain ⟨z0, z1, z2, z3, z4, z5⟩ := zC6 hb9
 have zf := fun o => Z7 hb9 o
 have HX := zh (Z0Z hb9 (.int .u64 ((last : Int) + 1)) (.string name) (.int .u64 (t.id : Int)) (.int .i64 0) (.int .u64 (s.own : Int)) (.int .u64 0))
 have Zc : Hid (Z8 (.returned (.tuple #[.agg #[.int .u64 ((last : Int) + 1), .string name, .int .u64 (t.id : Int), .int .i64 0, .int .u64 (s.own : Int), .int .u64 0], .int .i64 0])) (sixSet w9 r12 (.int .u64 ((last : Int) + 1)) (.string name) (.int .u64 (t.id : Int)) (.int .i64 0) (.int .u64 (s.own : Int)) (.int .u64 0))) := by
  rw [<- Zb.out]
  have ho := Z0A w9 r12 (.int .u64 ((last : Int) + 1)) (.string name) (.int .u64 (t.id : Int)) (.int .i64 0) (.int .u64 (s.own : Int)) (.int .u64 0)
  have hl12 := Z2 HB12.out.1
  have hr := HR.out
  have z4' := HQ4.out.size
  have zd := HQD.out.size
  refine ⟨rfl, ((((HQ4.out.mono (T := F) (fun _ _ x => x.elim)).trans' HQD.out (fun k _ e => by subst e; exact HROW.out.foot.1)).trans HFI.out.2.1).trans' hq9 (fun _ _ x => x.elim)).trans' ho (fun k hk e => by omega), ?_⟩
  refine ((HFI.out.1.kept hq9 (fun _ _ x => x)).kept ho (fun k hk e => ?_)).mono (fun k hk => ?_)
  ·subst e
   rcases hk with a | a
   ·have := HFW.out _ a; omega
   ·omega
  ·rcases hk with a | a
   ·exact Or.inl a
   ·exact Or.inr (by omega)
 unfold sixSet at HX Zc
 clear hq9 hb9 HTO HFI HB8
 go_wp2
 exact bodyPost_ret (ZC Tryz.results33 _ _ r12 _ _ (0, 0) _ (by rfl) HX.out Tryz.underlying92 rfl ZbF) (by rfl) Zc.out
section
variable {w w' : World} {sb : Nat} {o : Nat -> Nat} {s : St} {lb bb pb mh mt ms : Nat} {fh ft fs : Nat -> Option Value}
theorem Zh.newTree {id tb B : Nat} {es : List Ent} (h : Zh w sb o s lb bb pb mh mt ms fh ft fs) (hB : ∀ k, B <= k -> o k = 0) (hBw : B <= w.heap.size) (ho : Z0 (fun k => k = mt) w w') (hm : Z09 w' mt (upd ft id (some (ptrV tb)))) (hl : Z08 w' (fun k => B <= k) tb es) :
  Zh w' sb (grow o B w'.heap.size (11 + 2 * id)) { s with ts := upd s.ts id (some es) } lb bb pb mh mt ms fh (upd ft id (some (ptrV tb))) fs := by
 obtain ⟨t1, t2, t3, t4, t5⟩ := h.tags
 have hg : Z0y o (grow o B w'.heap.size (11 + 2 * id)) := Z0y.grow hB
 have hn : ∀ k, k = mt -> o k = 7 := fun k x => by rw [x]; exact t4
 refine ⟨ho.get h.box (fun x => by have := hn _ x; omega), Z46 h.log ho hg (by omega) (fun k x => by have := hn _ x; omega), Z2M h.book ho hg (by omega) (fun k x => by have := hn _ x; omega), h.pool.kept ho (fun x => by have := hn _ x; omega),
   h.mH.kept ho (fun x => by have := hn _ x; omega), hm, h.mS.kept ho (fun x => by have := hn _ x; omega), ⟨by rw [hg _ (by omega)]; exact t1, by rw [hg _ (by omega)]; exact t2, by rw [hg _ (by omega)]; exact t3, by rw [hg _ (by omega)]; exact t4, by rw [hg _ (by omega)]; exact t5⟩, fun k hk => Z2X hB (Nat.le_trans hBw ho.size) hk,
   Z3f h.heaps ho hg (fun k x i H _ => by have := hn _ x; omega), ⟨fun i hi => ?_, fun i es' hi => ?_⟩, Z2F h.snaps ho hg (fun k x => by have := hn _ x; omega), h.num⟩
 ·by_cases e : i = id
  ·subst e; simp [upd] at hi
  ·have := h.trees.1 i (by simpa [upd, e] using hi)
   simpa [upd, e] using this
 ·by_cases e : i = id
  ·subst e
   have : es = es' := by simpa [upd] using hi
   subst this
   exact ⟨tb, by simp [upd], hl.mono (fun k hk hlt => Z2h hk hlt)⟩
  ·obtain ⟨tb2, e2, h2⟩ := h.trees.2 i es' (by simpa [upd, e] using hi)
   exact ⟨tb2, by simpa [upd, e] using e2, ZaO h2 ho hg (by omega) (fun k x => by have := hn _ x; omega)⟩
end
theorem Zaj : Z05 Tryz.prog 53 3 1 8 := Z05.mk' (.int .i64 0) Tryz.underlying53 (by kernel_rfl) rfl (by decide)
def Z8P (l : List Nat) : List Value := l.map (fun (n : Nat) => .int .i64 (n : Int))
theorem ZbV (n : Nat) : ∀ u ∈ [Value.int .i64 (n : Int)], u.oneCell' = true := by
 intro u hu
 rw [List.mem_singleton] at hu
 rw [hu]
 rfl
structure Z1R (w wr : World) (v : Value) (l : List Nat) : Prop where
 quiet : Quiet w wr
 new : ∀ k, v.ownBlock = some k -> w.heap.size <= k
 own : wr.ownsRow 0 3 1 v l.length (Z8P l)
theorem Z1R.start {w wr : World} (h : Quiet w wr) : Z1R w wr (.slice none 0 0) [] := ⟨h, (fun k e => by cases e), World.ownsRow_nil _ _ _ _⟩
theorem Z1R.quietly {w wr w' : World} {v : Value} {l : List Nat} (h : Z1R w wr v l) (hq : Quiet wr w') : Z1R w w' v l := ⟨h.quiet.trans hq, h.new, Z4 h.own hq (fun _ _ x => x)⟩
theorem Z1R.from {w0 w wr : World} {v : Value} {l : List Nat} (h : Z1R w wr v l) (hq : Quiet w0 w) : Z1R w0 wr v l := ⟨hq.trans h.quiet, fun k e => Nat.le_trans hq.size (h.new k e), h.own⟩
theorem Z1R.push {w w3 w4 : World} {v v' : Value} {l : List Nat} {n : Nat} (h : Z1R w w3 v l) (hg : ZW w3 w4 3 1 v v' (l.length + 1) (Z8P l ++ [.int .i64 (n : Int)])) : Z1R w w4 v' (l ++ [n]) := by
 have hsz := h.quiet.size
 refine ⟨h.quiet.trans' hg.only (fun k hk e => by have := h.new k e; omega), fun k e => ?_, ?_⟩
 ·rcases hg.loc with y | y
  ·rw [y] at e; exact h.new k e
  ·rw [y] at e; injection e with e; omega
 ·rw [List.length_append]
  have e1 : Z8P (l ++ [n]) = Z8P l ++ [.int .i64 (n : Int)] := by simp [Z8P]
  rw [e1]
  exact hg.own
def Z2i (w : World) (l : List Nat) (e : Ending) (w' : World) : Prop := ∃ v, e = .returned v /\ Z1R w w' v l
theorem Z1L.join {w wr w4 : World} {v v' : Value} {l m : List IE} (h : Z1L w wr v l) (hg : ZW wr w4 92 6 v v' (l.length + m.length) (idxV l ++ idxV m)) : Z1L w w4 v' (l ++ m) := by
 have hsz := h.quiet.size
 refine ⟨h.quiet.trans' hg.only (fun k hk e => by have := h.new k e; omega), fun k e => ?_, ?_⟩
 ·rcases hg.loc with y | y
  ·rw [y] at e; exact h.new k e
  ·rw [y] at e; injection e with e; omega
 ·rw [List.length_append, Z7l]
  exact hg.own
theorem ZhL (l : List IE) : ∀ u ∈ idxV l, u.oneCell' = true := by
 intro u hu
 obtain ⟨e, _, h⟩ := List.mem_flatMap.1 hu
 exact Zdd e u h
def Z7T (w : World) (t : TE) (e : Ending) (w' : World) : Prop := ∃ A c, e = .returned (Z06 t A c) /\ Quiet w w' /\ Rd w' (fun k => w.heap.size <= k) 2 A t.cols.length (ZP t.cols) /\ t.cols.length <= c /\ c <= maxLen
theorem ZcN {w : World} {sb : Nat} {o : Nat -> Nat} {s : St} {t : TE} (h : Zm w sb o s) (hT : s.T = [t]) :
  Calls Tryz.prog 35 #[ptrV sb, .int .u64 (t.id : Int)] w (Z7T w t) := by
 obtain ⟨lb, bb, pb, mh, mt, ms, fh, ft, fs, h⟩ := h
 obtain ⟨_, c1, _⟩ := h.cells
 have hbk := h.book
 rw [hT] at hbk
 have lsb := Ze c1
 dsimp only at lsb
 have hq0 : Quiet w (w.alloc (.cells #[.int .u64 0, .string ⟨#[]⟩, .slice none 0 0, .int .u64 0, .int .u64 0] 98)) := (Z0.refl _ _).alloc _
 have hb4 := Z5 w (.cells #[.int .u64 0, .string ⟨#[]⟩, .slice none 0 0, .int .u64 0, .int .u64 0] 98)
 have HTB := zh (Z8O (hbk.kept hq0 (fun _ _ x => x)))
 obtain ⟨r4, hr4⟩ : ∃ r4, w.heap.size = r4 := ⟨_, rfl⟩
 rw [hr4] at hb4
 have HQ0 := zh hq0
 have HB4 := zh hb4
 have HR4 := zh hr4
 obtain ⟨Z8, Z6⟩ : ∃ Z8, Z7T w t = Z8 := ⟨_, rfl⟩
 rw [Z6]
 have Zb := zh Z6
 have hne : ¬ sb = w.heap.size := by omega
 have hne4 : ¬ sb = r4 := by omega
 have lsb4 : sb < r4 := by omega
 clear h hbk Z6
 go_enter Tryz.func35, Tryz.ntmps35
 go_wp2_with fail
 (try rw [hr4])
 generalize w.alloc (.cells #[.int .u64 0, .string ⟨#[]⟩, .slice none 0 0, .int .u64 0, .int .u64 0] 98) = w0 at *
 clear hq0 hb4 hr4
 refine HTB.out.mono ?_
 rintro e w1 ⟨b, cap, A, c, rfl, hO⟩
 have HO := zh hO
 obtain ⟨t0, t1, t2, t3, t4⟩ := hO.cells
 have lb1 := Ze t0
 dsimp only at lb1
 have hb4 := hO.quiet.get HB4.out (fun x => x)
 obtain ⟨z0, z1, z2, z3, z4⟩ := zC5 hb4
 have zf := fun o => Z7 hb4 o
 have lr4 := Z2 hb4
 have hEQ : ((t.id : Int) == (t.id : Int)) = true := by simp
 have HX := zh (Zd (Z25 hb4 (.int .u64 (t.id : Int)) (.string t.name) (.slice A t.cols.length c) (.int .u64 (t.xmin : Int)) (.int .u64 (t.xmax : Int))) (.cells #[.int .u64 (t.id : Int), .string t.name, .slice A t.cols.length c, .int .u64 (t.xmin : Int), .int .u64 (t.xmax : Int)] 98))
 have Zc : Hid (Z8 (.returned (Z06 t A c)) ((fiveSet w1 r4 (.int .u64 (t.id : Int)) (.string t.name) (.slice A t.cols.length c) (.int .u64 (t.xmin : Int)) (.int .u64 (t.xmax : Int))).alloc (.cells #[.int .u64 (t.id : Int), .string t.name, .slice A t.cols.length c, .int .u64 (t.xmin : Int), .int .u64 (t.xmax : Int)] 98))) := by
  rw [<- Zb.out]
  have ho := Z1m w1 r4 (.int .u64 (t.id : Int)) (.string t.name) (.slice A t.cols.length c) (.int .u64 (t.xmin : Int)) (.int .u64 (t.xmax : Int))
  have hqa : Quiet (fiveSet w1 r4 (.int .u64 (t.id : Int)) (.string t.name) (.slice A t.cols.length c) (.int .u64 (t.xmin : Int)) (.int .u64 (t.xmax : Int))) ((fiveSet w1 r4 (.int .u64 (t.id : Int)) (.string t.name) (.slice A t.cols.length c) (.int .u64 (t.xmin : Int)) (.int .u64 (t.xmax : Int))).alloc (.cells #[.int .u64 (t.id : Int), .string t.name, .slice A t.cols.length c, .int .u64 (t.xmin : Int), .int .u64 (t.xmax : Int)] 98)) := (Z0.refl _ _).alloc _
  have hz := HQ0.out.size
  have hl := Z2 HB4.out
  refine ⟨A, c, rfl, ((HQ0.out.trans HO.out.quiet).trans' ho (fun k hk e => by have := HR4.out; omega)).trans hqa, ((HO.out.cols.1.kept ho (fun k hk e => by have := hk.1; omega)).kept hqa (fun _ _ x => x)).mono (fun k hk => by have := hk.1; omega), HO.out.cols.2.1, HO.out.cols.2.2⟩
 unfold fiveSet at HX Zc
 unfold Z06 at Zc
 clear hO hb4 HTB
 go_wp2
 refine wp_loop_rounds 1 ?_
 rw [rounds_succ]
 go_wp2
 exact bodyPost_ret (Z00 Tryz.results35 _ _ r4 _ _ (0, 0) _ (by rfl) HX.out Tryz.underlying98 rfl Z4B) (by rfl) Zc.out
def Z2Z (w : World) (t : TE) (l : List IE) (e : Ending) (w' : World) : Prop := ∃ b cap A c v, e = .returned (.tuple #[.slice (some ⟨b, 0, none⟩) 1 cap, v]) /\ Z4L w w' t b A c /\ Z1L w w' v l
theorem Z5P {w : World} {sb : Nat} {o : Nat -> Nat} {s : St} {t : TE} (h : Zm w sb o s) (hT : s.T = [t]) (hI : s.I.length <= 1000) :
  Calls Tryz.prog 23 #[ptrV sb] w (Z2Z w t (ZQ s.L t.id s.I)) := by
 obtain ⟨lb, bb, pb, mh, mt, ms, fh, ft, fs, h⟩ := h
 obtain ⟨c0, c1, _⟩ := h.cells
 have hbk := h.book
 rw [hT] at hbk
 have lsb := Ze c1
 dsimp only at lsb
 have HTB := zh (Z8O hbk)
 have HBK := zh hbk
 have HLG := zh h.log
 have HI := zh hI
 obtain ⟨Z8, Z6⟩ : ∃ Z8, Z2Z w t (ZQ s.L t.id s.I) = Z8 := ⟨_, rfl⟩
 rw [Z6]
 have Zb := zh Z6
 clear h hbk Z6
 go_enter Tryz.func23, Tryz.ntmps23
 go_wp2_with fail
 refine HTB.out.mono ?_
 rintro e w1 ⟨b, cap, A, c, rfl, hO⟩
 obtain ⟨t0, t1, t2, t3, t4⟩ := hO.cells
 have lb1 := Ze t0
 dsimp only at lb1
 have hqa : Quiet w1 (w1.alloc (.cells #[.int .u64 (t.id : Int), .string t.name, .slice A t.cols.length c, .int .u64 (t.xmin : Int), .int .u64 (t.xmax : Int)] 98)) := (Z0.refl _ _).alloc _
 have hba := Z5 w1 (.cells #[.int .u64 (t.id : Int), .string t.name, .slice A t.cols.length c, .int .u64 (t.xmin : Int), .int .u64 (t.xmax : Int)] 98)
 obtain ⟨r7, hr7⟩ : ∃ r7, w1.heap.size = r7 := ⟨_, rfl⟩
 rw [hr7] at hba
 have HO := zh (hO.quietly hqa)
 have HBA := zh hba
 have HR7 := zh hr7
 have HC := zh (And.intro c0 c1)
 clear hO HTB hba c0
 go_wp2
 refine wp_loop_rounds 2 ?_
 rw [rounds_succ]
 go_wp2_with fail
 (try rw [hr7])
 generalize w1.alloc (.cells #[.int .u64 (t.id : Int), .string t.name, .slice A t.cols.length c, .int .u64 (t.xmin : Int), .int .u64 (t.xmax : Int)] 98) = w2 at *
 have hq2 := HO.out.quiet
 clear hqa hr7 t0 t1 t2 t3 t4 lb1
 have HS8 : Hid (∀ W, Quiet w2 W -> (fun w' => w'.cell? ⟨sb, 1, none⟩ = some (ptrV bb) /\ w'.cell? ⟨sb, 0, none⟩ = some (ptrV lb) /\ w'.cell? ⟨r7, 0, none⟩ = some (.int .u64 (t.id : Int))) W) := fun W hq => ⟨(hq2.trans hq).cell HC.out.2 (fun x => x), (hq2.trans hq).cell HC.out.1 (fun x => x), by rw [Z1 (hq.get HBA.out (fun x => x))]; rfl⟩
 have HKEEP : Hid (∀ W, Quiet w2 W -> Calls Tryz.prog 57 #[ptrV bb, ptrV lb, .int .u64 (t.id : Int)] W (Z5N W (ZQ s.L t.id s.I))) := fun W hq => Za9 (HBK.out.kept (hq2.trans hq) (fun _ _ x => x)) (HLG.out.kept (hq2.trans hq) (fun _ _ x => x)) HI.out
 have HLK : Hid ((ZQ s.L t.id s.I).length <= 1000) := Nat.le_trans (List.length_filter_le _ _) HI.out
 obtain ⟨kl, hkl⟩ : ∃ kl, ZQ s.L t.id s.I = kl := ⟨_, rfl⟩
 rw [hkl] at HKEEP Zb HLK
 clear hkl
 obtain ⟨m, hm⟩ : ∃ m, kl.length = m := ⟨_, rfl⟩
 have HM := zh hm
 rw [hm] at HLK
 clear hm hq2 c1
 refine zH HS8 ((Z0.refl _ _).drew) (fun Z3 => ?_)
 have q0 : Quiet w2 w2.drew := (Z0.refl _ _).drew
 generalize w2.drew = d0 at q0 Z3 ⊢
 refine zT 0 ?_
 refine zT 1 ?_
 refine zT 2 ?_
 refine zT 3 ?_
 refine zT 4 ?_
 refine zT 5 ?_
 refine zT 6 ?_
 refine zT 7 ?_
 refine zT 8 ?_
 refine zT 9 ?_
 refine zT 10 ?_
 refine zR 11 ?_
 intro K hK
 go_simp
 go_at_call 57
 refine (HKEEP.out _ q0).mono ?_
 rintro e d1 ⟨vk, rfl, hkw⟩
 obtain ⟨Ak, ck, rfl, hck, hmk, hrk⟩ := Z9 hkw.own
 have hkm := HM.out
 rw [hkm] at hck hrk ⊢
 have q1 := q0.trans hkw.quiet
 dsimp only
 refine hK.out _ _ ?_ (fun Z3 => ?_)
 ·exact HS8.out _ q1
 clear hK K
 (try simp only [Act.put, zPA, zPZ, zPS])
 refine zR 12 ?_
 intro K hK
 refine Z1T ZbG rfl (.tmp 21) (.tmp 32) rfl rfl (World.ownsRow_nil _ _ _ _) rfl hrk (ZhL kl) (by have := HLK.out; unfold maxLen; omega) (by have := HLK.out; omega) ?_
 intro v3 d3 hg3
 have q3 : Quiet w2 d3 := q1.trans (hg3.only.mono (fun k _ e => by cases e))
 have hiw : Z1L w d3 v3 kl := (Z1L.start (HO.out.quiet.trans q1)).join (l := []) (by rw [hkm]; exact hg3)
 clear hg3
 refine hK.out _ _ ?_ (fun Z3 => ?_)
 ·exact HS8.out _ q3
 clear hK K
 (try simp only [Act.put, zPA, zPZ, zPS])
 refine zT 13 ?_
 refine zD ?_
 have HOB := zh ((HO.out.quietly q3))
 have HIW := zh hiw
 clear Z3 q0 q1 q3 hiw HS8 HKEEP
 go_wp2
 rw [rounds_succ]
 have Zc : Hid (Z8 (.returned (.tuple #[.slice (some ⟨b, 0, none⟩) 1 cap, v3])) d3) := by
  rw [<- Zb.out]
  exact ⟨b, cap, A, c, v3, rfl, HOB.out, HIW.out⟩
 go_wp2
 exact Zc.out
theorem ZeG {w : World} {sb : Nat} {o : Nat -> Nat} {s : St} {t : TE} {H : List (List (Option Tup))} (h : Zm w sb o s) (hT : s.T = [t]) (hI : s.I.length <= 1000) (hid : U64 t.id) (hH : s.hs t.id = some H) :
  Calls Tryz.prog 17 #[ptrV sb] w (Z2i w [usedH H]) := by
 have HBK := zh (Z5P h hT hI)
 obtain ⟨lb, bb, pb, mh, mt, ms, fh, ft, fs, h⟩ := h
 obtain ⟨_, _, _, c3, _⟩ := h.cells
 have lsb := Ze c3
 dsimp only at lsb
 obtain ⟨hb, hf, hp⟩ := h.heaps.2 t.id H hH
 have HH := zh h
 have HF := zh hf
 have HP := zh hp
 have HID := zh hid
 obtain ⟨un, hun⟩ : ∃ un, usedH H = un := ⟨_, rfl⟩
 have HUN := zh hun
 rw [hun]
 obtain ⟨Z8, Z6⟩ : ∃ Z8, Z2i w [un] = Z8 := ⟨_, rfl⟩
 rw [Z6]
 have Zb := zh Z6
 clear h hf hp hid Z6 hun
 go_enter Tryz.func17, Tryz.ntmps17
 go_wp2_with fail
 refine HBK.out.mono ?_
 rintro e w1 ⟨b, cap, A, c, v, rfl, hO, _⟩
 obtain ⟨t0, t1, t2, t3, t4⟩ := hO.cells
 have lb1 := Ze t0
 dsimp only at lb1
 have hqa : Quiet w1 (w1.alloc (.cells #[.int .u64 (t.id : Int), .string t.name, .slice A t.cols.length c, .int .u64 (t.xmin : Int), .int .u64 (t.xmax : Int)] 98)) := (Z0.refl _ _).alloc _
 have hba := Z5 w1 (.cells #[.int .u64 (t.id : Int), .string t.name, .slice A t.cols.length c, .int .u64 (t.xmin : Int), .int .u64 (t.xmax : Int)] 98)
 obtain ⟨r7, hr7⟩ : ∃ r7, w1.heap.size = r7 := ⟨_, rfl⟩
 rw [hr7] at hba
 have HQ2 := zh (hO.quiet.trans hqa)
 have HBA := zh hba
 have HC := zh c3
 clear hO HBK hba c3
 go_wp2
 refine wp_loop_rounds 2 ?_
 rw [rounds_succ]
 go_wp2_with fail
 (try rw [hr7])
 generalize w1.alloc (.cells #[.int .u64 (t.id : Int), .string t.name, .slice A t.cols.length c, .int .u64 (t.xmin : Int), .int .u64 (t.xmax : Int)] 98) = w2 at *
 clear hqa hr7 t0 t1 t2 t3 t4 lb1
 have HS6 : Hid (∀ W, Quiet w2 W -> (fun w' => w'.cell? ⟨sb, 3, none⟩ = some (.map (some mh)) /\ w'.cell? ⟨r7, 0, none⟩ = some (.int .u64 (t.id : Int)) /\ (Instr.lookup 74 (.map (some mh)) (.int .u64 (t.id : Int)) false).run Tryz.prog w' = .ok (ptrV hb) w') W) := fun W hq => ⟨(HQ2.out.trans hq).cell HC.out (fun x => x), by rw [Z1 (hq.get HBA.out (fun x => x))]; rfl, Z1n (HH.out.mH.kept (HQ2.out.trans hq) (fun x => x)) HF.out HID.out⟩
 have HUSE : Hid (∀ W, Quiet w2 W -> Calls Tryz.prog 52 #[ptrV hb] W (fun e w' => e = .returned (.int .i64 (un : Int)) /\ Quiet W w')) := fun W hq => by
  refine (Zfk (HP.out.kept (HQ2.out.trans hq) (fun _ _ x => x))).mono ?_
  rintro e w' ⟨rfl, n, rfl⟩
  rw [HUN.out]
  exact ⟨rfl, (Z0.refl _ _).drewN n⟩
 refine zH HS6 ((Z0.refl _ _).drew) (fun Z3 => ?_)
 have q0 : Quiet w2 w2.drew := (Z0.refl _ _).drew
 generalize w2.drew = d0 at q0 Z3 ⊢
 refine zT 0 ?_
 refine zT 1 ?_
 refine zT 2 ?_
 refine zT 3 ?_
 refine zT 4 ?_
 refine zT 5 ?_
 refine zT 6 ?_
 refine zT 7 ?_
 refine zR 8 ?_
 intro K hK
 go_simp
 go_at_call 52
 refine (HUSE.out _ q0).mono ?_
 rintro e d1 ⟨rfl, hq1⟩
 have q1 := q0.trans hq1
 clear hq1
 dsimp only
 refine hK.out _ _ ?_ (fun Z3 => ?_)
 ·exact HS6.out _ q1
 clear hK K
 (try simp only [Act.put, zPA, zPZ, zPS])
 refine zR 9 ?_
 intro K hK
 go_simp
 refine hK.out _ _ ?_ (fun Z3 => ?_)
 ·exact HS6.out _ ((q1.alloc _))
 clear hK K
 (try simp only [Act.put, zPA, zPZ, zPS])
 have q2 : Quiet w2 (d1.alloc (.cells #[.int .i64 (un : Int)] 3)) := q1.alloc _
 have hrd := Rd.one d1 (.int .i64 (un : Int)) 3 (0, 0) (S := fun _ => True) trivial
 obtain ⟨bu, hbu⟩ : ∃ bu, d1.heap.size = bu := ⟨_, rfl⟩
 rw [hbu] at hrd
 (try rw [hbu])
 generalize d1.alloc (.cells #[.int .i64 (un : Int)] 3) = d2 at *
 clear hbu
 refine zR 10 ?_
 intro K hK
 refine Z1T Zaj rfl (.tmp 19) (.tmp 28) rfl rfl (World.ownsRow_nil _ _ _ _) rfl hrd (ZbV un) (by unfold maxLen; omega) (by omega) ?_
 intro v4 d4 hg4
 have q4 : Quiet w2 d4 := q2.trans (hg4.only.mono (fun k _ e => by cases e))
 have hiw : Z1R w2 d4 v4 [un] := (Z1R.start q2).push (l := []) hg4
 clear hg4 hrd
 refine hK.out _ _ ?_ (fun Z3 => ?_)
 ·exact HS6.out _ q4
 clear hK K
 (try simp only [Act.put, zPA, zPZ, zPS])
 refine zT 11 ?_
 refine zD ?_
 have Zc : Hid (Z8 (.returned v4) d4) := by
  rw [<- Zb.out]
  exact ⟨v4, rfl, hiw.from HQ2.out⟩
 clear Z3 q0 q1 q2 q4 hiw HS6 HUSE
 go_wp2
 rw [rounds_succ]
 go_wp2
 exact Zc.out
theorem ZaJ {w : World} {sb : Nat} {o : Nat -> Nat} {s : St} {t : TE} (h : Zm w sb o s) (hT : s.T = [t]) (hI : s.I.length <= 1000) (hid : U64 t.id) (hx : ∀ e ∈ ZQ s.L t.id s.I, U64 e.id /\ ∃ es, s.ts e.id = some es) :
  Calls Tryz.prog 24 #[ptrV sb] w (Z2i w ((ZQ s.L t.id s.I).map (fun e => ((s.ts e.id).getD []).length))) := by
 have HBK := zh (Z5P h hT hI)
 have HLK : Hid ((ZQ s.L t.id s.I).length <= 1000) := Nat.le_trans (List.length_filter_le _ _) hI
 obtain ⟨lb, bb, pb, mh, mt, ms, fh, ft, fs, h⟩ := h
 obtain ⟨_, _, _, _, c4, _⟩ := h.cells
 have lsb := Ze c4
 dsimp only at lsb
 have HH := zh h
 have HX := zh hx
 obtain ⟨kl, hkl⟩ : ∃ kl, ZQ s.L t.id s.I = kl := ⟨_, rfl⟩
 rw [hkl] at HBK HX HLK ⊢
 obtain ⟨m, hm⟩ : ∃ m, kl.length = m := ⟨_, rfl⟩
 rw [hm] at HLK
 have HM := zh hm
 have HC := zh c4
 obtain ⟨Z8, Z6⟩ : ∃ Z8, Z2i w (kl.map (fun e => ((s.ts e.id).getD []).length)) = Z8 := ⟨_, rfl⟩
 rw [Z6]
 have Zb := zh Z6
 clear h hx hid Z6 hkl hm c4
 go_enter Tryz.func24, Tryz.ntmps24
 go_wp2_with fail
 refine HBK.out.mono ?_
 rintro e w1 ⟨b, cap, A, c, v, rfl, _, hW⟩
 obtain ⟨Ak, ck, rfl, hck, hmk, hrk⟩ := Z9 hW.own
 have HQ1 := zh hW.quiet
 have HRK := zh hrk
 have hkm := HM.out
 rw [hkm] at hck ⊢
 unfold maxLen at hmk
 clear hW HBK hrk hkm
 go_wp2
 go_loopw [15, 3, 7] (fun i v _ wr => ∃ (k : Nat) (v' : Value), k <= m /\ i = .int .i64 (k : Int) /\ v = v' /\ Z1R w1 wr v' ((kl.take k).map (fun e => ((s.ts e.id).getD []).length))) (fun i _ _ _ => m - (intOf i).toNat)
 case atStart => exact ⟨0, _, Nat.zero_le _, rfl, rfl, Z1R.start (Z0.refl _ _)⟩
 case round =>
  obtain ⟨k, v', hk, rfl, rfl, hW⟩ := hrel
  have HW := zh hW
  clear hW
  by_cases hlt : k < m
  ·obtain ⟨x, hx⟩ : ∃ x, kl[k]? = some x := ⟨_, zg (by have := HM.out; omega)⟩
   obtain ⟨hxu, es, hes⟩ := HX.out x (List.mem_of_getElem? hx)
   obtain ⟨tb, hft, htr⟩ := HH.out.trees.2 x.id es hes
   have hrk := HRK.out.kept HW.out.quiet (fun _ _ x => x)
   obtain ⟨bk, ofk, rfl, _, hcc⟩ := hrk.cells (by rw [Z5d]; have := HM.out; omega)
   obtain ⟨i0, i1, i2, i3, i4, i5⟩ := Z7O kl k x hx
   have y0 := hcc _ _ i0
   have y1 := hcc _ _ i1
   have y2 := hcc _ _ i2
   have y3 := hcc _ _ i3
   have y4 := hcc _ _ i4
   have y5 := hcc _ _ i5
   rw [<- Nat.add_assoc] at y1 y2 y3 y4 y5
   have ly := Ze y0
   dsimp only at ly
   have HX1 := zh hx
   have HES := zh hes
   have HXU := zh hxu
   have HFT := zh hft
   have HTR := zh htr
   have hqa : Quiet wr (wr.alloc (.cells #[.int .u64 (x.id : Int), .string x.name, .int .u64 (x.table : Int), .int .i64 (x.column : Int), .int .u64 (x.xmin : Int), .int .u64 (x.xmax : Int)] 92)) := (Z0.refl _ _).alloc _
   have hba := Z5 wr (.cells #[.int .u64 (x.id : Int), .string x.name, .int .u64 (x.table : Int), .int .i64 (x.column : Int), .int .u64 (x.xmin : Int), .int .u64 (x.xmax : Int)] 92)
   obtain ⟨r7, hr7⟩ : ∃ r7, wr.heap.size = r7 := ⟨_, rfl⟩
   rw [hr7] at hba
   have HQ2 := zh ((HQ1.out.trans HW.out.quiet).trans hqa)
   have HON : Hid (∀ k, u3.ownBlock = some k -> w1.heap.size <= k /\ k < r7) := fun k e => ⟨HW.out.new k e, by rw [<- hr7]; exact (HW.out.own.lt k e).2⟩
   have HW2 := zh (HW.out.quietly hqa)
   have HBA := zh hba
   clear hx hes hxu hft htr hrk hcc i0 i1 i2 i3 i4 i5 hba
   go_wp2_with fail
   (try rw [hr7])
   generalize wr.alloc (.cells #[.int .u64 (x.id : Int), .string x.name, .int .u64 (x.table : Int), .int .i64 (x.column : Int), .int .u64 (x.xmin : Int), .int .u64 (x.xmax : Int)] 92) = w2 at *
   clear hqa hr7 y0 y1 y2 y3 y4 y5 ly
   have HS6 : Hid (∀ W, Z0 (fun k => u3.ownBlock = some k) w2 W -> (fun w' => w'.cell? ⟨sb, 4, none⟩ = some (.map (some mt)) /\ w'.cell? ⟨r7, 0, none⟩ = some (.int .u64 (x.id : Int)) /\ (Instr.lookup 75 (.map (some mt)) (.int .u64 (x.id : Int)) false).run Tryz.prog w' = .ok (ptrV tb) w') W) := fun W ho => by
    have hlt : ∀ k, k < w.heap.size -> ¬ (u3.ownBlock = some k) := fun k hk e => by
     have := (HON.out k e).1
     have := HQ1.out.size
     omega
    refine ⟨ho.cell (HQ2.out.cell HC.out (fun x => x)) (hlt sb lsb), by rw [Z1 (ho.get HBA.out (fun e => by have := (HON.out _ e).2; omega))]; rfl, Z6A ((HH.out.mT.kept HQ2.out (fun x => x)).kept ho (hlt mt HH.out.mT.lt)) HFT.out HXU.out⟩
   have HLEN : Hid (∀ W, Quiet w2 W -> Calls Tryz.prog 58 #[ptrV tb] W (fun e w' => e = .returned (.int .i64 (es.length : Int)) /\ W = w')) := fun W hq => Zhr (HTR.out.kept (HQ2.out.trans hq) (fun _ _ x => x))
   have HTK : Hid ((kl.take (k + 1)).map (fun e => ((s.ts e.id).getD []).length) = (kl.take k).map (fun e => ((s.ts e.id).getD []).length) ++ [es.length]) := by
    show _ = _
    rw [List.take_add_one, HX1.out, Option.toList_some, List.map_append]
    simp [HES.out]
   obtain ⟨un, hun⟩ : ∃ un, es.length = un := ⟨_, rfl⟩
   rw [hun] at HLEN HTK
   have HLL : Hid (((kl.take k).map (fun e => ((s.ts e.id).getD []).length)).length <= 1000) := by
    unfold Hid
    rw [List.length_map, List.length_take]
    have := HLK.out
    omega
   clear hun
   generalize (kl.take k).map (fun e => ((s.ts e.id).getD []).length) = pl at HW2 HTK HLL
   refine zH HS6 ((Z0.refl _ _).drew) (fun Z3 => ?_)
   have q0 : Quiet w2 w2.drew := (Z0.refl _ _).drew
   generalize w2.drew = d0 at q0 Z3 ⊢
   refine zT 0 ?_
   refine zT 1 ?_
   refine zT 2 ?_
   refine zT 3 ?_
   refine zT 4 ?_
   refine zT 5 ?_
   refine zT 6 ?_
   refine zT 7 ?_
   refine zR 8 ?_
   intro K hK
   go_simp
   go_at_call 58
   refine (HLEN.out _ q0).mono ?_
   rintro e d1 ⟨rfl, rfl⟩
   have q1 := q0
   dsimp only
   refine hK.out _ _ ?_ (fun Z3 => ?_)
   ·exact HS6.out _ (q1.mono (fun _ _ x => x.elim))
   clear hK K
   (try simp only [Act.put, zPA, zPZ, zPS])
   refine zR 9 ?_
   intro K hK
   go_simp
   refine hK.out _ _ ?_ (fun Z3 => ?_)
   ·exact HS6.out _ ((q1.alloc _).mono (fun _ _ x => x.elim))
   clear hK K
   (try simp only [Act.put, zPA, zPZ, zPS])
   have q2 : Quiet w2 (d0.alloc (.cells #[.int .i64 (un : Int)] 3)) := q1.alloc _
   have hrd := Rd.one d0 (.int .i64 (un : Int)) 3 (0, 0) (S := fun _ => True) trivial
   obtain ⟨bu, hbu⟩ : ∃ bu, d0.heap.size = bu := ⟨_, rfl⟩
   rw [hbu] at hrd
   (try rw [hbu])
   generalize d0.alloc (.cells #[.int .i64 (un : Int)] 3) = d2 at *
   clear hbu
   refine zR 10 ?_
   intro K hK
   refine Z1T Zaj rfl (.tmp 19) (.tmp 28) rfl rfl (HW2.out.quietly q2).own rfl hrd (ZbV un) (by have := HLL.out; unfold maxLen; omega) (by have := HLL.out; omega) ?_
   intro v4 d4 hg4
   have hiw := (HW2.out.quietly q2).push hg4
   have q4 : Quiet w1 d4 := hiw.quiet
   have ho4 := (q2.mono (T := fun k => u3.ownBlock = some k) (fun _ _ x => x.elim)).trans hg4.only
   clear hg4 hrd
   refine hK.out _ _ ?_ (fun Z3 => ?_)
   ·exact HS6.out _ ho4
   clear hK K
   (try simp only [Act.put, zPA, zPZ, zPS])
   refine zT 11 ?_
   refine zD ?_
   rw [<- HTK.out] at hiw
   have HIW := zh hiw
   clear Z3 q0 q1 q2 q4 hiw HS6 HLEN HW HW2
   go_wp2
   go_roundw
   case rel => exact ⟨k + 1, _, by omega, by go_num, rfl, HIW.out⟩
   case measure => simp [intOf]; omega
  ·obtain rfl : k = m := by omega
   have Zc : Hid (Z8 (.returned u3) wr) := by
    rw [<- Zb.out]
    have := HW.out
    rw [List.take_of_length_le (by have := HM.out; omega)] at this
    exact ⟨u3, rfl, this.from HQ1.out⟩
   go_wp2
   exact Zc.out
section
variable {k i : Nat} {free : Bool} {s : St} {L : List Nat} {T : List (Option Tup)} {xm : Nat} {p q : Int} {sn : Nat -> Option Zo}
end
structure Zcd (w wr : World) (v : Value) (id : Nat) (pg sl : Int) (n b c b2 c2 : Nat) : Prop where
 form : v = .slice (some ⟨b, 0, none⟩) 1 c
 quiet : Quiet w wr
 nb : w.heap.size <= b /\ b < wr.heap.size
 nb2 : w.heap.size <= b2 /\ b2 < wr.heap.size
 c0 : wr.cell? ⟨b, 0, none⟩ = some (.int .u64 (id : Int))
 c1 : wr.cell? ⟨b, 1, none⟩ = some (.int .i64 pg)
 c2' : wr.cell? ⟨b, 2, none⟩ = some (.int .i64 sl)
 c3 : wr.cell? ⟨b, 3, none⟩ = some (.slice (some ⟨b2, 0, none⟩) 1 c2)
 cv : wr.cell? ⟨b2, 1, none⟩ = some (.int .i64 (n : Int))
theorem Z18.one {w wr : World} {v : Value} {M : List Z0Y} {id : Nat} {pg sl : Int} {n : Nat} (h : Z18 w wr v M) (hp : (M.map Z0Y.told).Perm [(id, pg, sl, n)]) : ∃ b c b2 c2, Zcd w wr v id pg sl n b c b2 c2 := by
 have hm := List.perm_singleton.1 hp
 rcases M with _ | ⟨m, _ | ⟨m2, M⟩⟩
 ·cases hm
 rotate_left 1
 ·cases hm
 injection hm with hm _
 obtain ⟨i, p, s, k, A, c'⟩ := m
 injection hm with e1 hm
 injection hm with e2 hm
 injection hm with e3 e4
 subst e1 e2 e3 e4
 have hown := h.own
 rcases ZJ hown with ⟨_, e⟩ | ⟨b, c, rfl, _, _⟩
 ·cases e
 obtain ⟨hn, hv⟩ := h.vals _ (List.mem_singleton_self _)
 rcases ZJ hv with ⟨_, e⟩ | ⟨b2, c2, e, _, _⟩
 ·cases e
 injection e with eA _ ec
 dsimp only at eA ec
 subst eA
 first | subst ec | skip
 obtain ⟨cb, hcb⟩ := Zj hown (k := b) rfl
 obtain ⟨cb2, hcb2⟩ := Zj hv (k := b2) rfl
 have k0 := hown.cells (by rfl) 0 (.int .u64 (i : Int)) rfl
 have k1 := hown.cells (by rfl) 1 (.int .i64 p) rfl
 have k2 := hown.cells (by rfl) 2 (.int .i64 s) rfl
 have k3 := hown.cells (by rfl) 3 (.slice (some ⟨b2, 0, none⟩) 1 c') rfl
 have kv := hv.cells (by rfl) 1 (.int .i64 (k : Int)) rfl
 exact ⟨b, c, b2, c', rfl, h.quiet, ⟨h.new b rfl, Z2 hcb⟩, ⟨hn b2 rfl, Z2 hcb2⟩, k0, k1, k2, k3, kv⟩
theorem Zcd.kept {w wr wn : World} {v : Value} {id n b c b2 c2 : Nat} {pg sl : Int} {S : Nat -> Prop} (h : Zcd w wr v id pg sl n b c b2 c2) (ho : Z0 S wr wn) (h1 : ¬ S b) (h2 : ¬ S b2) :
  wn.cell? ⟨b, 0, none⟩ = some (.int .u64 (id : Int)) /\ wn.cell? ⟨b, 1, none⟩ = some (.int .i64 pg) /\ wn.cell? ⟨b, 2, none⟩ = some (.int .i64 sl) /\ wn.cell? ⟨b, 3, none⟩ = some (.slice (some ⟨b2, 0, none⟩) 1 c2) /\ wn.cell? ⟨b2, 1, none⟩ = some (.int .i64 (n : Int)) :=
 ⟨ho.cell h.c0 h1, ho.cell h.c1 h1, ho.cell h.c2' h1, ho.cell h.c3 h1, ho.cell h.cv h2⟩
def t7 : Tup := ⟨1, 1, 0, -1, -1, rowI 7⟩
theorem Z9j {T : List (Option Tup)} (h : ∀ s ∈ T, ∃ v, s = some v /\ U64 v.xmin /\ U64 v.xmax /\ ∃ n, n < 256 /\ v.data = rowI n) : Z5o [T] := by
 intro pg sl v hv
 unfold ZR at hv
 split at hv
 ·cases hv
 ·unfold ZY at hv
  split at hv
  ·cases hv
  ·rcases hp : pg.toNat with _ | k
   ·rw [hp] at hv
    have e : ([T] : List (List (Option Tup))).getD 0 [] = T := rfl
    rw [e] at hv
    cases hx : T[sl.toNat]? with
    | none => rw [hx] at hv; cases hv
    | some u =>
     rw [hx] at hv
     obtain ⟨v', rfl, h1, h2, h3⟩ := h u (List.mem_of_getElem? hx)
     have : v' = v := by simpa using hv
     subst this
     exact ⟨h1, h2, h3⟩
   ·rw [hp] at hv
    have e : ([T] : List (List (Option Tup))).getD (k + 1) [] = [] := rfl
    rw [e] at hv
    simp at hv
theorem Z6D {T : List (Option Tup)} (h : T.length <= 1000000) : ∀ k, k <= [T].length -> (ZO [T] k).length <= 1000000 := by
 intro k hk
 have hl : ∀ (p : Int) (m : Nat), (Zl p T m).length <= m := fun p m => by
  unfold Zl
  have := List.length_filterMap_le (fun s : Nat => if ((T[s]?).join).isSome then some (p, (s : Int)) else none) (List.range m)
  simpa using this
 rcases k with _ | _ | k
 ·exact Nat.zero_le _
 ·show ([] ++ Zl ((0 : Nat) : Int) T T.length).length <= 1000000
  rw [List.nil_append]
  exact Nat.le_trans (hl _ _) h
 ·simp at hk
theorem Zdj : Z2D ⟨#[116]⟩ := ⟨by decide, by decide, fun i h => by
  obtain rfl : i = 0 := by have : i < 1 := h; omega
  decide +revert⟩
theorem Zdk : Z2D ⟨#[97]⟩ := ⟨by decide, by decide, fun i h => by
  obtain rfl : i = 0 := by have : i < 1 := h; omega
  decide +revert⟩
section
variable {w0 wr w1 w3 w4 : World} {v v' : Value} {M : List Z0Y} {sb : Nat} {s s' : St}
end
structure Z4a (w : World) (rb sb : Nat) (under : Bool) (vj : Value) (ps : Nat) : Prop where
 box : w.heap[rb]? = some (.cells #[ptrV sb, .bool under, vj, .int .i64 (ps : Int)] 81 (0, 0))
theorem Z4a.cells {w : World} {rb sb ps : Nat} {under : Bool} {vj : Value} (h : Z4a w rb sb under vj ps) : w.cell? ⟨rb, 0, none⟩ = some (ptrV sb) /\ w.cell? ⟨rb, 1, none⟩ = some (.bool under) /\ w.cell? ⟨rb, 2, none⟩ = some vj /\ w.cell? ⟨rb, 3, none⟩ = some (.int .i64 (ps : Int)) :=
 ⟨by rw [Z1 h.box]; rfl, by rw [Z1 h.box]; rfl, by rw [Z1 h.box]; rfl, by rw [Z1 h.box]; rfl⟩
structure ZeV (w : World) (jb tid pages page index : Nat) (known : Bool) (vi vd : Value) : Prop where
 box : w.heap[jb]? = some (.cells #[.int .u64 (tid : Int), .int .i64 (pages : Int), vi, .bool known, .int .i64 (page : Int), .int .i64 (index : Int), vd] 202 (0, 0))
structure Z01 where
 w : World
 X : Nat -> Prop
 at_ : World
def Zw (B : Z01) (w : World) (sb : Nat) (K : Nat -> Prop) (s : St) : Prop :=
 Zz B.w w sb (fun k => K k ∨ B.X k) s /\ (∀ k x, B.X k -> B.at_.heap[k]? = some x -> w.heap[k]? = some x) /\ ∀ k, K k -> ¬ B.X k
def ToB (B : Z01) (w : World) (sb : Nat) (K : Nat -> Prop) (s' : St) (w' : World) : Prop := Zw B w' sb K s' /\ Z0 (fun k => B.w.heap.size <= k /\ ¬ K k) w w'
section
variable {B : Z01} {w w' : World} {sb : Nat} {K K' : Nat -> Prop} {s s' : St}
theorem ToB.st (h : ToB B w sb K s w') : Zw B w' sb K s := h.1
theorem Zw.mono (h : Zw B w sb K s) (hk : ∀ k, K' k -> K k) : Zw B w sb K' s := ⟨h.1.mono (fun k e => e.imp (hk k) id), h.2.1, fun k e => h.2.2 k (hk k e)⟩
theorem Zw.quietly (h : Zw B w sb K s) (hq : Quiet w w') : Zw B w' sb (fun k => K k ∨ (w.heap.size <= k /\ k < w'.heap.size)) s := by
 refine ⟨(h.1.quietly hq).mono (fun k e => ?_), fun k x a b => hq.get (h.2.1 k x a b) (fun y => y), fun k e => ?_⟩
 ·rcases e with (e | e) | e
  ·exact Or.inl (Or.inl e)
  ·exact Or.inr e
  ·exact Or.inl (Or.inr e)
 ·rcases e with e | e
  ·exact h.2.2 k e
  ·exact fun y => by have := h.1.lt (Or.inr y : K k ∨ B.X k); omega
theorem Zw.same (h : Zw B w sb K s) (hq : Quiet w w') : Zw B w' sb K s := (h.quietly hq).mono (fun _ x => Or.inl x)
theorem Zw.quiet (h : Zw B w sb K s) : Quiet B.w w := h.1.quiet
theorem Zw.lt (h : Zw B w sb K s) {k : Nat} (hk : K k) : k < w.heap.size := h.1.lt (Or.inl hk : K k ∨ B.X k)
theorem Zw.law (h : Zw B w sb K s) : Zz B.w w sb K s := h.1.mono (fun _ e => Or.inl e)
theorem Zw.turnTo (h : Zw B w sb K s) (ho : Z0 K w w') (hK : ∀ k, K k -> B.w.heap.size <= k) (hK' : ∀ k, K' k -> K k ∨ (w.heap.size <= k /\ k < w'.heap.size)) : Zw B w' sb K' s := by
 obtain ⟨o, h1, h2, h3, h4⟩ := h.1
 have hz := ho.size
 refine ⟨⟨o, h1.kept ho (fun k x => (h4 k (Or.inl x)).1), h2.trans' ho (fun k hk x => by have := hK k x; omega), h3, fun k x => ?_⟩, fun k x a b => ho.get (h.2.1 k x a b) (fun y => h.2.2 k y a), fun k e => ?_⟩
 ·rcases x with x | x
  ·rcases hK' k x with y | y
   ·exact ⟨(h4 k (Or.inl y)).1, Nat.lt_of_lt_of_le (h4 k (Or.inl y)).2 hz⟩
   ·exact ⟨h1.big k y.1, y.2⟩
  ·exact ⟨(h4 k (Or.inr x)).1, Nat.lt_of_lt_of_le (h4 k (Or.inr x)).2 hz⟩
 ·rcases hK' k e with y | y
  ·exact h.2.2 k y
  ·exact fun z => by have := (h4 k (Or.inr z)).2; omega
theorem Zw.turn (h : Zw B w sb K s) (ho : Z0 K w w') (hK : ∀ k, K k -> B.w.heap.size <= k) : Zw B w' sb K s := h.turnTo ho hK (fun _ e => Or.inl e)
theorem Zw.call (h : Zw B w sb K s) (ht : Z0L B.w w sb (fun k => K k ∨ B.X k) s' w') : ToB B w sb K s' w' :=
 ⟨⟨ht.st, fun k x a b => ht.2.get (h.2.1 k x a b) (fun y => y.2 (Or.inr a)), h.2.2⟩, ht.2.mono (fun k _ e => ⟨e.1, fun y => e.2 (Or.inl y)⟩)⟩
theorem Zw.start {w0 : World} (h : Zz w0 w sb K s) : Zw ⟨w0, fun _ => False, w⟩ w sb K s := ⟨h.mono (fun k e => by rcases e with e | e; exact e; exact e.elim), (fun k x a => a.elim), fun k _ a => a⟩
end
def Z1o (w0 : Z01) (w : World) (sb rb ps : Nat) (s : St) : Prop := ∃ vj, Zw w0 w sb (· = rb) s /\ Z4a w rb sb false vj ps /\ w0.w.heap.size <= rb
def Z3p (w0 : Z01) (w : World) (sb rb ps : Nat) (s : St) : Prop := ∃ A c, Zw w0 w sb (· = rb) s /\ Z4a w rb sb true (.slice A 0 c) ps /\ w0.w.heap.size <= rb /\ c <= maxLen
def BrK (rb jr jb : Nat) (vi vd : Value) (k : Nat) : Prop := k = rb ∨ k = jr ∨ k = jb ∨ vi.ownBlock = some k ∨ vd.ownBlock = some k
structure Z0i (w0 : Z01) (w : World) (sb rb ps : Nat) (s : St) (tid n k i : Nat) (known : Bool) (ids : List Nat) (D : List (Int × Int)) (jr jb cj : Nat) (vi vd : Value) : Prop where
 law : Zw w0 w sb (BrK rb jr jb vi vd) s
 br : Z4a w rb sb true (.slice (some ⟨jr, 0, none⟩) 1 cj) ps
 row : ∃ cs : List Value, w.heap[jr]? = some (.cells (ptrV jb :: cs).toArray 200 (0, 0))
 job : ZeV w jb tid n k i known vi vd
 idx : w.ownsRow 0 34 1 vi ids.length (ZB ids)
 dead : w.ownsRow 0 48 2 vd D.length (ZM D)
 new : ∀ k, BrK rb jr jb vi vd k -> w0.w.heap.size <= k
 cap : 1 <= cj /\ cj <= maxLen
def Z1z (w0 : Z01) (w : World) (sb rb ps : Nat) (s : St) (tid n k i : Nat) (known : Bool) (ids : List Nat) (D : List (Int × Int)) : Prop := ∃ jr jb cj vi vd, Z0i w0 w sb rb ps s tid n k i known ids D jr jb cj vi vd
def Z1e (z : Int) (e : Ending) : Prop := ∃ a b c, e = .returned (.agg #[.int .i64 z, a, b, c])
theorem Z1k : (Tryz.prog.info? 126).map (·.size) = some 4 := by kernel_rfl
theorem Zak {w0 : Z01} {w : World} {sb : Nat} {s : St} (h : Zw w0 w sb (fun _ => False) s) :
  Calls Tryz.prog 8 #[ptrV sb] w (fun e w' => ∃ rb, e = .returned (ptrV rb) /\ Z1o w0 w' sb rb 0 s) := by
 have hq : Quiet w (w.alloc (.cells #[ptrV sb, .bool false, .slice none 0 0, .int .i64 0] 81)) := (Z0.refl _ _).alloc _
 have HX : Hid (Z1o w0 (w.alloc (.cells #[ptrV sb, .bool false, .slice none 0 0, .int .i64 0] 81)) sb w.heap.size 0 s) :=
  ⟨.slice none 0 0, (h.quietly hq).mono (fun k e => Or.inr ⟨by rw [e]; exact Nat.le_refl _, by rw [e]; simp⟩), ⟨Z5 _ _⟩, h.quiet.size⟩
 clear h hq
 go_enter Tryz.func8, Tryz.ntmps8
 go_wp2
 go_ret
 exact ⟨_, rfl, HX.out⟩
theorem ZbW {w0 : Z01} {w : World} {sb rb ps : Nat} {s : St} (h : Z3p w0 w sb rb ps s) (hp : ps < 1000000) :
  Calls Tryz.prog 51 #[ptrV rb] w (fun e w' => Z1e 4 e /\ Z1o w0 w' sb rb (ps + 1) s) := by
 obtain ⟨A, c, hl, hb, hr, hc⟩ := h
 obtain ⟨Z8, Z6⟩ : ∃ Z8 : Ending -> World -> Prop, (fun e w' => Z1e 4 e /\ Z1o w0 w' sb rb (ps + 1) s) = Z8 := ⟨_, rfl⟩
 rw [Z6]
 have Zb := zh Z6
 have HL := zh hl
 have HB := zh hb
 have HR := zh hr
 have hq : Quiet w (w.alloc (.cells #[.int .i64 0, .int .u64 0, .int .u64 0, .int .i64 0] 126)) := (Z0.refl _ _).alloc _
 have h2 := Z5 w (.cells #[.int .i64 0, .int .u64 0, .int .u64 0, .int .i64 0] 126)
 obtain ⟨r2, hr2⟩ : ∃ r2, w.heap.size = r2 := ⟨_, rfl⟩
 rw [hr2] at h2
 have HR2 := zh hr2
 unfold maxLen at hc
 clear Z6 hl hr
 go_enter Tryz.func51, Tryz.ntmps51
 go_upto_block 0 with (fail)
 (try rw [hr2])
 generalize w.alloc (.cells #[.int .i64 0, .int .u64 0, .int .u64 0, .int .i64 0] 126) = w1 at *
 have hb1 := hq.get hb.box (fun x => x)
 obtain ⟨b0, b1, b2, b3⟩ := zC4 hb1
 have bf := fun o => Z7 hb1 o
 obtain ⟨e0, e1, e2, e3⟩ := zC4 h2
 have ef := fun o => Z7 h2 o
 have hlb := Z2 hb1
 have hl2 := Z2 h2
 have hbl := Z2 HB.out.box
 have hne : ¬ rb = r2 := by omega
 have hne2 : ¬ r2 = rb := by omega
 have hw : IntKind.i64.wrap ((ps : Int) + 1) = (ps : Int) + 1 := ZE _ (by omega) (by omega)
 have HB3 : Hid (((w1.setCell ⟨rb, 1, none⟩ (.bool false)).setCell ⟨rb, 3, none⟩ (.int .i64 ((ps : Int) + 1))).heap[rb]? = some (.cells #[ptrV sb, .bool false, .slice A 0 c, .int .i64 ((ps : Int) + 1)] 81 (0, 0))) := by
  show _ = _
  rw [Zf (Zf hb1 _ _) _ _]
  rfl
 have ho3 : Z0 (· = rb) w1 ((w1.setCell ⟨rb, 1, none⟩ (.bool false)).setCell ⟨rb, 3, none⟩ (.int .i64 ((ps : Int) + 1))) := ((Z0.refl (· = rb) w1).setCell (p := ⟨rb, 1, none⟩) (fun _ => rfl) _).setCell (p := ⟨rb, 3, none⟩) (fun _ => rfl) _
 have h23 := ho3.get h2 hne2
 have HX := zh (Z0g h23 (.int .i64 4) (.int .u64 0) (.int .u64 0) (.int .i64 0))
 have Zc : Hid (Z8 (.returned (.agg #[.int .i64 4, .int .u64 0, .int .u64 0, .int .i64 0])) (fourSet ((w1.setCell ⟨rb, 1, none⟩ (.bool false)).setCell ⟨rb, 3, none⟩ (.int .i64 ((ps : Int) + 1))) r2 (.int .i64 4) (.int .u64 0) (.int .u64 0) (.int .i64 0))) := by
  rw [<- Zb.out]
  have ho4 := Z02 ((w1.setCell ⟨rb, 1, none⟩ (.bool false)).setCell ⟨rb, 3, none⟩ (.int .i64 ((ps : Int) + 1))) r2 (.int .i64 4) (.int .u64 0) (.int .u64 0) (.int .i64 0)
  have hr2' := HR2.out
  have ho : Z0 (· = rb) w (fourSet ((w1.setCell ⟨rb, 1, none⟩ (.bool false)).setCell ⟨rb, 3, none⟩ (.int .i64 ((ps : Int) + 1))) r2 (.int .i64 4) (.int .u64 0) (.int .u64 0) (.int .i64 0)) := ((hq.mono (fun _ _ x => x.elim)).trans ho3).trans' ho4 (fun k hk e => by have e' : k = r2 := e; omega)
  refine ⟨⟨_, _, _, rfl⟩, .slice A 0 c, HL.out.turn ho (fun k e => by have e' : k = rb := e; rw [e']; exact HR.out), ⟨?_⟩, HR.out⟩
  exact ho4.get HB3.out hne
 unfold fourSet at HX Zc
 clear ho3 h23 hb1 h2 hq
 go_wp2
 exact bodyPost_ret (Z00 Tryz.results51 _ _ r2 _ _ (0, 0) _ (by rfl) HX.out Tryz.underlying126 rfl Z1k) (by rfl) Zc.out
structure Zi3 (L : List Nat) (hz : Nat) (H H' : List (List (Option Tup))) (l : List (Int × Int)) : Prop where
 get : ∀ p s, ZR H' p s = if (p, s) ∈ l /\ Z0b L H hz (p, s) = true then none else ZR H p s
 used : usedH H' + (l.filter (Z0b L H hz)).length = usedH H
 fit : ∀ T ∈ H', Z0X T
 len : H'.length = H.length
theorem ZeH {L : List Nat} {hz : Nat} {H : List (List (Option Tup))} (hfit : ∀ T ∈ H, Z0X T) (l : List (Int × Int)) : l.Nodup -> Zi3 L hz H (Z0H L hz H l) l := by
 refine Zdg (P := fun l => l.Nodup -> Zi3 L hz H (Z0H L hz H l) l) ?_ ?_ l
 ·exact fun _ => ⟨fun p s => by rw [if_neg (fun x => by cases x.1)]; rfl, rfl, hfit, rfl⟩
 ·intro l a ih hn
  obtain ⟨n1, _, n2⟩ := List.nodup_append.1 hn
  have hi := ih n1
  have ha : a ∉ l := fun x => n2 _ x a (by simp) rfl
  have hga : ZR (Z0H L hz H l) a.1 a.2 = ZR H a.1 a.2 := by
   rw [hi.get, if_neg (fun x => ha x.1)]
  have hda : Z0b L (Z0H L hz H l) hz a = Z0b L H hz a := by
   unfold Z0b
   rw [hga]
  rw [Zag, hda]
  cases hd : Z0b L H hz a with
  | false =>
   rw [if_neg (by decide)]
   refine ⟨fun p s => ?_, ?_, hi.fit, hi.len⟩
   ·rw [hi.get]
    by_cases e : (p, s) = a
    ·rw [e]
     rw [if_neg (fun x => ha x.1), if_neg (fun x => by rw [hd] at x; cases x.2)]
    ·by_cases e2 : (p, s) ∈ l /\ Z0b L H hz (p, s) = true
     ·rw [if_pos e2, if_pos ⟨List.mem_append_left _ e2.1, e2.2⟩]
     ·rw [if_neg e2, if_neg (fun x => e2 ⟨by
         rcases List.mem_append.1 x.1 with y | y
         · exact y
         · exact absurd (by simpa using y) e, x.2⟩)]
   ·rw [List.filter_append]
    simp only [List.filter_cons, hd, List.filter_nil]
    simpa using hi.used
  | true =>
   rw [if_pos rfl]
   obtain ⟨v, hv⟩ : ∃ v, ZR H a.1 a.2 = some v := by
    unfold Z0b at hd
    cases e : ZR H a.1 a.2 with
    | none => rw [e] at hd; cases hd
    | some v => exact ⟨v, rfl⟩
   obtain ⟨H', h1, h2⟩ := ZdU hi.fit (hga.trans hv)
   rw [h1]
   refine ⟨fun p s => ?_, ?_, h2.fit, by rw [h2.len, hi.len]⟩
   ·show ZR H' p s = _
    rw [h2.get, hi.get]
    by_cases e : p = a.1 /\ s = a.2
    ·have e' : (p, s) = a := Prod.ext e.1 e.2
     rw [if_pos e, if_pos ⟨by rw [e']; simp, by rw [e']; exact hd⟩]
    ·rw [if_neg e]
     by_cases e2 : (p, s) ∈ l /\ Z0b L H hz (p, s) = true
     ·rw [if_pos e2, if_pos ⟨List.mem_append_left _ e2.1, e2.2⟩]
     ·rw [if_neg e2, if_neg (fun x => e2 ⟨by
         rcases List.mem_append.1 x.1 with y | y
         · exact y
         · have y' : (p, s) = a := by simpa using y
           exact absurd ⟨congrArg Prod.fst y', congrArg Prod.snd y'⟩ e, x.2⟩)]
   ·show usedH H' + _ = _
    have h3 := h2.used
    have h4 := hi.used
    rw [List.filter_append, List.length_append]
    simp only [List.filter_cons, hd, List.filter_nil]
    show usedH H' + ((l.filter (Z0b L H hz)).length + 1) = _
    omega
def Zdl (w : World) (sb : Nat) (o : Nat -> Nat) (s : St) (id hz : Nat) (H : List (List (Option Tup))) (ps : List (Int × Int)) (e : Ending) (w' : World) : Prop :=
 (∃ z : Int, e = .returned (.int .i64 z)) /\ Z0E w sb o { s with hs := upd s.hs id (some (Z0H s.L hz H ps)) } w'
theorem ZaK {w : World} {sb id hz N n c : Nat} {o : Nat -> Nat} {s : St} {H : List (List (Option Tup))} {ps : List (Int × Int)} {A : Option Addr} {Sv : Nat -> Prop} (h : Zm w sb o s) (hid : U64 id) (hH : s.hs id = some H) (hfit : ∀ T ∈ H, Z0X T) (hnum : Z2m H) (hr : Rd w Sv 2 A n (ZM ps)) (hS : ∀ k, Sv k -> o k = 0) (hpl : ps.length = n) (hc : n <= c) (hm : c <= maxLen) (hnd : ps.Nodup) (hg : ∀ a ∈ ps, ∃ v, ZR H a.1 a.2 = some v)
  (hh : Z19 s hz) (hL : s.L.length < 1000000000) (hN : ∀ x y, s.sn x = some y -> x <= N) (hN2 : N <= 2000000) :
  Calls Tryz.prog 102 #[ptrV sb, .int .u64 (id : Int), .slice A n c] w (Zdl w sb o s id hz H ps) := by
 obtain ⟨lb, bb, pb, mh, mt, ms, fh, ft, fs, h⟩ := h
 obtain ⟨hb, hfh, _⟩ := h.heaps.2 id H hH
 have HH := zh h
 have HF := zh hfh
 have HID := zh hid
 have HHH := zh hH
 have HFIT := zh hfit
 have HNUM := zh hnum
 have HLD := zh (Z71 hr)
 have HSV := zh hS
 have HPL := zh hpl
 have HND := zh hnd
 have HG := zh hg
 have HHZ := zh hh
 have HNN := zh (And.intro hL (And.intro hN hN2))
 have hH0 : ({ s with hs := upd s.hs id (some (Z0H s.L hz H (ps.take 0))) } : St) = s := by
  have : upd s.hs id (some H) = s.hs := by
   funext k
   by_cases e : k = id
   ·rw [e]; simp [upd, hH]
   ·simp [upd, e]
  show ({ s with hs := upd s.hs id (some H) } : St) = s
  rw [this]
 have HST0 : Hid (Zh w sb o { s with hs := upd s.hs id (some (Z0H s.L hz H (ps.take 0))) } lb bb pb mh mt ms fh ft fs) := by rw [hH0]; exact h
 obtain ⟨Z8, Z6⟩ : ∃ Z8, Zdl w sb o s id hz H ps = Z8 := ⟨_, rfl⟩
 rw [Z6]
 have Zb := zh Z6
 unfold maxLen at hm
 clear h hfh hid hH hfit hnum hr hS hpl hnd hg hh hL hN hN2 Z6 hH0
 go_enter Tryz.func102, Tryz.ntmps102
 go_wp2
 go_loopw [14, 7, 9] (fun i v _ wr => ∃ (k m : Nat) (o' : Nat -> Nat), k <= n /\ i = .int .i64 (k : Int) /\ m <= k /\ v = .int .i64 (m : Int) /\ Zh wr sb o' { s with hs := upd s.hs id (some (Z0H s.L hz H (ps.take k))) } lb bb pb mh mt ms fh ft fs /\ (∀ j, j < w.heap.size -> o' j = o j) /\ Z0 (fun j => o j = 10 + 2 * id) w wr) (fun i _ _ _ => n - (intOf i).toNat)
 case atStart => exact ⟨0, 0, o, Nat.zero_le _, rfl, Nat.le_refl _, rfl, HST0.out, fun _ _ => rfl, Z0.refl _ _⟩
 case round =>
  obtain ⟨k, m, o', hk, rfl, hmk, rfl, hR, hO, hT⟩ := hrel
  have HR := zh hR
  have HO := zh hO
  have HT := zh hT
  clear hR hO hT
  by_cases hlt : k < n
  ·obtain ⟨⟨pg, sl⟩, ha⟩ : ∃ a, ps[k]? = some a := ⟨_, zg (by have := HPL.out; omega)⟩
   obtain ⟨v, hgv0⟩ := HG.out (pg, sl) (List.mem_of_getElem? ha)
   have hnk : (pg, sl) ∉ ps.take k := fun x => by
    obtain ⟨j, hj⟩ := List.mem_iff_getElem?.1 x
    have hjk : j < k := by
     have := (zi.1 hj).1
     rw [List.length_take] at this
     omega
    rw [List.getElem?_take_of_lt hjk] at hj
    have := (List.getElem?_inj (zi.1 hj).1 HND.out).1 (hj.trans ha.symm)
    omega
   have hsw := ZeH (L := s.L) (hz := hz) HFIT.out (ps.take k) (HND.out.sublist (List.take_sublist _ _))
   have hgv : ZR (Z0H s.L hz H (ps.take k)) pg sl = some v := by
    rw [hsw.get, if_neg (fun x => hnk x.1)]
    exact hgv0
   obtain ⟨hx1, hx2⟩ := HNUM.out pg sl v hgv0
   obtain ⟨bl, ofl, rfl, _, la, lb2⟩ := Z3K (HLD.out.kept HT.out (fun k hk e => by have := HSV.out k hk.1; omega)) ha
   obtain ⟨r, hrv⟩ : ∃ r, Z0v s.L v.xmin v.xmax hz = r := ⟨_, rfl⟩
   have HTK : Hid (Z0H s.L hz H (ps.take (k + 1)) = if r then (Z1t (Z0H s.L hz H (ps.take k)) pg sl).2 else Z0H s.L hz H (ps.take k)) := by
    show _ = _
    rw [List.take_add_one, ha, Option.toList_some, Zag]
    have e1 : Z0b s.L (Z0H s.L hz H (ps.take k)) hz (pg, sl) = r := by unfold Z0b; rw [hgv]; exact hrv
    rw [e1]
   obtain ⟨HK, hHK⟩ : ∃ HK, Z0H s.L hz H (ps.take k) = HK := ⟨_, rfl⟩
   rw [hHK] at HR HTK hgv hsw
   have hcode : (Z1t HK pg sl).1 = 0 := by unfold Z1t; rw [hgv]
   have HCODE := zh hcode
   have hqb : Quiet wr (wr.alloc (.cells #[.int .i64 pg, .int .i64 sl] 48)) := (Z0.refl _ _).alloc _
   have hat := Z5 wr (.cells #[.int .i64 pg, .int .i64 sl] 48)
   obtain ⟨at_, hat_⟩ : ∃ at_, wr.heap.size = at_ := ⟨_, rfl⟩
   rw [hat_] at hat
   have HQB : Hid (Quiet wr (wr.alloc (.cells #[.int .i64 pg, .int .i64 sl] 48))) := hqb
   have HZA : Hid (o' at_ = 0) := HR.out.big at_ (by omega)
   have HSA : Hid (Zm wr sb o' { s with hs := upd s.hs id (some HK) }) := ⟨_, _, _, _, _, _, _, _, _, HR.out⟩
   have hHK2 : ({ s with hs := upd s.hs id (some HK) } : St).hs id = some HK := by simp [upd]
   have HDD : Hid (∀ W, Quiet (wr.alloc (.cells #[.int .i64 pg, .int .i64 sl] 48)) W -> Calls Tryz.prog 138 #[ptrV sb, .int .u64 (id : Int), .agg #[.int .i64 pg, .int .i64 sl], .int .u64 (hz : Int)] W (Z0p W r)) := fun W hq => by
    rw [<- hrv]
    exact Z8L (s := { s with hs := upd s.hs id (some HK) }) (HSA.out.quietly (HQB.out.trans hq)) HID.out hHK2 hgv hx1 hx2
   have HHO : Hid (∀ W, Quiet (wr.alloc (.cells #[.int .i64 pg, .int .i64 sl] 48)) W -> Calls Tryz.prog 36 #[ptrV sb] W (fun e w' => e = .returned (.int .u64 (hz : Int)) /\ Quiet W w')) := fun W hq => by
    refine (Z2Q (N := N) (HSA.out.quietly (HQB.out.trans hq)) HNN.out.1 HNN.out.2.1 HNN.out.2.2).mono ?_
    rintro e w' ⟨z, rfl, hh, hq'⟩
    have hh' : Z19 s z := ⟨hh.none_, hh.some_, hh.least, hh.num⟩
    rw [hh'.same HHZ.out]
    exact ⟨rfl, hq'⟩
   obtain ⟨hb', hf', hp'⟩ := HR.out.heaps.2 id HK hHK2
   have hbe : hb' = hb := by
    rw [HF.out] at hf'
    injection hf' with hf'
    have e' : (Value.pointer (some ⟨hb, 0, none⟩)) = .pointer (some ⟨hb', 0, none⟩) := hf'
    injection e' with e'
    injection e' with e'
    injection e' with e' _ _
    exact e'.symm
   subst hbe
   have HP := zh hp'
   dsimp only at la lb2
   clear ha hgv hx1 hx2 hrv hnk hsw hgv0 hcode hHK hf' hp' hHK2
   go_wp2_with fail
   (try rw [hat_])
   generalize wr.alloc (.cells #[.int .i64 pg, .int .i64 sl] 48) = wb at *
   have HAT := zh hat
   have HATE := zh hat_
   clear la lb2 hat hqb hat_
   have HS6 : Hid (∀ W, Z0 (fun j => o' j = 10 + 2 * id) wb W -> (fun w' => w'.cell? ⟨at_, 0, none⟩ = some (.int .i64 pg) /\ w'.cell? ⟨at_, 1, none⟩ = some (.int .i64 sl) /\ w'.cell? ⟨sb, 3, none⟩ = some (.map (some mh)) /\ (Instr.lookup 74 (.map (some mh)) (.int .u64 (id : Int)) false).run Tryz.prog w' = .ok (ptrV hb') w') W) := fun W ho => by
    have tg := HR.out.tags
    have h2 := HR.out.quietly HQB.out
    have b7 := ho.get HAT.out (fun e => by have := HZA.out; omega)
    exact ⟨by rw [Z1 b7]; rfl, by rw [Z1 b7]; rfl, ho.cell h2.cells.2.2.2.1 (fun e => by dsimp only at e; omega), Z1n (h2.mH.kept ho (fun e => by omega)) HF.out HID.out⟩
   have HFREE : Hid (∀ W, Quiet wb W -> Calls Tryz.prog 140 #[ptrV hb', .agg #[.int .i64 pg, .int .i64 sl]] W (fun e w' => e = .returned (.int .i64 0) /\ Z0 (fun j => o' j = 10 + 2 * id) W w' /\ Zp w' hb' pb (fun j => o' j = 10 + 2 * id) (Z1t HK pg sl).2)) := fun W hq => by
    have := Zfo pg sl (HP.out.kept (HQB.out.trans hq) (fun _ _ x => x))
    rw [HCODE.out] at this
    exact this
   cases r with
   | false =>
    refine zH HS6 ((Z0.refl _ _).drew) (fun Z3 => ?_)
    have q0 : Quiet wb wb.drew := (Z0.refl _ _).drew
    generalize wb.drew = d0 at q0 Z3 ⊢
    refine zT 0 ?_
    refine zT 1 ?_
    refine zT 2 ?_
    refine zT 3 ?_
    refine zR 4 ?_
    intro K hK
    go_simp
    go_at_call 36
    refine (HHO.out _ q0).mono ?_
    rintro e d1 ⟨rfl, hq1⟩
    have q1 := q0.trans hq1
    clear hq1
    dsimp only
    refine hK.out _ _ ?_ (fun Z3 => ?_)
    ·exact HS6.out _ (q1.mono (fun _ _ x => x.elim))
    clear hK K
    (try simp only [Act.put, zPA, zPZ, zPS])
    refine zR 5 ?_
    intro K hK
    go_simp
    go_at_call 138
    refine (HDD.out _ q1).mono ?_
    rintro e d2 ⟨rfl, hq2⟩
    have q2 := q1.trans hq2
    clear hq2
    dsimp only
    refine hK.out _ _ ?_ (fun Z3 => ?_)
    ·exact HS6.out _ (q2.mono (fun _ _ x => x.elim))
    clear hK K
    (try simp only [Act.put, zPA, zPZ, zPS])
    refine zT 6 ?_
    refine zO 7 ?_
    refine zO 8 ?_
    refine zO 9 ?_
    refine zO 10 ?_
    refine zO 11 ?_
    refine zO 12 ?_
    refine zO 13 ?_
    refine zO 14 ?_
    refine zO 15 ?_
    refine zT 16 ?_
    refine zD ?_
    rw [if_neg (by decide)] at HTK
    have Zc : Hid (Zh d2 sb o' { s with hs := upd s.hs id (some (Z0H s.L hz H (ps.take (k + 1)))) } lb bb pb mh mt ms fh ft fs) := by
     rw [HTK.out]
     exact HR.out.quietly (HQB.out.trans q2)
    have HTE : Hid (Z0 (fun j => o j = 10 + 2 * id) w d2) := (HT.out.trans' HQB.out (fun _ _ x => x.elim)).trans' q2 (fun _ _ x => x.elim)
    clear Z3 q0 q1 q2 HS6 HDD HHO HFREE
    go_wp2
    go_roundw
    case rel => exact ⟨k + 1, m, o', by omega, by go_num, by omega, rfl, Zc.out, HO.out, HTE.out⟩
    case measure => simp [intOf]; omega
   | true =>
    refine zH HS6 ((Z0.refl _ _).drew) (fun Z3 => ?_)
    have q0 : Quiet wb wb.drew := (Z0.refl _ _).drew
    generalize wb.drew = d0 at q0 Z3 ⊢
    refine zT 0 ?_
    refine zT 1 ?_
    refine zT 2 ?_
    refine zT 3 ?_
    refine zR 4 ?_
    intro K hK
    go_simp
    go_at_call 36
    refine (HHO.out _ q0).mono ?_
    rintro e d1 ⟨rfl, hq1⟩
    have q1 := q0.trans hq1
    clear hq1
    dsimp only
    refine hK.out _ _ ?_ (fun Z3 => ?_)
    ·exact HS6.out _ (q1.mono (fun _ _ x => x.elim))
    clear hK K
    (try simp only [Act.put, zPA, zPZ, zPS])
    refine zR 5 ?_
    intro K hK
    go_simp
    go_at_call 138
    refine (HDD.out _ q1).mono ?_
    rintro e d2 ⟨rfl, hq2⟩
    have q2 := q1.trans hq2
    clear hq2
    dsimp only
    refine hK.out _ _ ?_ (fun Z3 => ?_)
    ·exact HS6.out _ (q2.mono (fun _ _ x => x.elim))
    clear hK K
    (try simp only [Act.put, zPA, zPZ, zPS])
    refine zT 6 ?_
    refine zT 7 ?_
    refine zT 8 ?_
    refine zT 9 ?_
    refine zT 10 ?_
    refine zT 11 ?_
    refine zT 12 ?_
    refine zT 13 ?_
    refine zR 14 ?_
    intro K hK
    go_simp
    go_at_call 140
    refine (HFREE.out _ q2).mono ?_
    rintro e d3 ⟨rfl, ho3, hh3⟩
    dsimp only
    refine hK.out _ _ ?_ (fun Z3 => ?_)
    ·exact HS6.out _ ((q2.mono (fun _ _ x => x.elim)).trans ho3)
    clear hK K
    (try simp only [Act.put, zPA, zPZ, zPS])
    refine zT 15 ?_
    refine zT 16 ?_
    refine zD ?_
    rw [if_pos rfl] at HTK
    have hst := (HR.out.quietly (HQB.out.trans q2)).setHeap (id := id) (left' := s.left) (H' := (Z1t HK pg sl).2) HF.out (ho3.mono (fun j _ e => Or.inl e)) (((HR.out.quietly (HQB.out.trans q2)).pool).kept ho3 (fun e => by have := HR.out.tags; omega)) (hh3.mono (fun j e => Or.inl e))
    have Zc : Hid (Zh d3 sb (grow o' d2.heap.size d3.heap.size (10 + 2 * id)) { s with hs := upd s.hs id (some (Z0H s.L hz H (ps.take (k + 1)))) } lb bb pb mh mt ms fh ft fs) := by
     rw [HTK.out]
     have e1 : ({ ({ s with hs := upd s.hs id (some HK) } : St) with left := s.left, hs := upd ({ s with hs := upd s.hs id (some HK) } : St).hs id (some (Z1t HK pg sl).2) } : St) = { s with hs := upd s.hs id (some (Z1t HK pg sl).2) } := by
      simp only [Z4q]
     rw [e1] at hst
     exact hst
    have hz2 := q2.size
    have hzb := HQB.out.size
    have hzt := HT.out.size
    have HOE : Hid (∀ j, j < w.heap.size -> grow o' d2.heap.size d3.heap.size (10 + 2 * id) j = o j) := fun j hj => by
     rw [Z0s (by omega)]
     exact HO.out j hj
    have HTE : Hid (Z0 (fun j => o j = 10 + 2 * id) w d3) := ((HT.out.trans' HQB.out (fun _ _ x => x.elim)).trans' q2 (fun _ _ x => x.elim)).trans' ho3 (fun j hj e => by rw [<- HO.out j hj]; exact e)
    have hw1 : IntKind.i64.wrap ((m : Int) + 1) = ((m + 1 : Nat) : Int) := by rw [ZE _ (by omega) (by omega)]; rfl
    clear Z3 q0 q1 q2 ho3 hh3 HS6 HDD HHO HFREE hst hz2 hzb hzt
    go_wp2
    go_roundw
    case rel => exact ⟨k + 1, m + 1, _, by omega, by go_num, by omega, by first | rfl | go_num, Zc.out, HOE.out, HTE.out⟩
    case measure => simp [intOf]; omega
  ·obtain rfl : k = n := by omega
   have Zc : Hid (Z8 (.returned (.int .i64 (m : Int))) wr) := by
    rw [<- Zb.out]
    have := HR.out
    rw [List.take_of_length_le (by have := HPL.out; omega)] at this
    exact ⟨⟨_, rfl⟩, o', HO.out, HT.out.mono (fun j _ e => by omega), _, _, _, _, _, _, _, _, _, this⟩
   go_wp2
   exact Zc.out
theorem ZeI {w : World} {g c n lc zc oc : Nat} {ps : List Nat} {ds : List Bool} {R : Nat -> World -> Prop} {cur : Array Value} (hpl : ps.length = n) (hdl : ds.length = n) (hc : n <= c) (hm : c <= maxLen) (hg : w.heap[g]? = some (.cells cur 144 (0, 0))) (hcur : ∀ (i p : Nat), ps[i]? = some p -> cur[i]? = some (ptrV p))
  (hf : ∀ (k p : Nat) d W, R k W -> ps[k]? = some p -> ds[k]? = some d -> Calls Tryz.prog 194 #[ptrV p, ptrV lc, ptrV zc, ptrV oc] W (fun e w' => e = .returned (.bool d) /\ R (k + 1) w' /\ ∀ o, W.heap[g]? = some o -> w'.heap[g]? = some o)) (h0 : R 0 w) :
  Calls Tryz.prog 203 #[.slice (some ⟨g, 0, none⟩) n c, .func (.func 194) #[] #[ptrV lc, ptrV zc, ptrV oc]] w (fun e w' => w'.heap[g]? = some (.cells cur 144 (0, 0)) /\ ((∃ i : Nat, i < n /\ ds[i]? = some true /\ (∀ j : Nat, j < i -> ds[j]? = some false) /\ e = .returned (.int .i64 (i : Int)) /\ R (i + 1) w') ∨ ((∀ j : Nat, j < n -> ds[j]? = some false) /\ e = .returned (.int .i64 (-1)) /\ R n w'))) := by
 obtain ⟨Z8, Z6⟩ : ∃ Z8 : Ending -> World -> Prop, (fun e w' => w'.heap[g]? = some (.cells cur 144 (0, 0)) /\ ((∃ i : Nat, i < n /\ ds[i]? = some true /\ (∀ j : Nat, j < i -> ds[j]? = some false) /\ e = .returned (.int .i64 (i : Int)) /\ R (i + 1) w') ∨ ((∀ j : Nat, j < n -> ds[j]? = some false) /\ e = .returned (.int .i64 (-1)) /\ R n w'))) = Z8 := ⟨_, rfl⟩
 rw [Z6]
 have Zb := zh Z6
 have HG := zh hg
 have HCUR := zh hcur
 have HF := zh hf
 have HR0 := zh h0
 have HPL := zh hpl
 have HDL := zh hdl
 unfold maxLen at hm
 clear Z6 hg hcur hf h0 hpl hdl
 go_enter Tryz.func203, Tryz.ntmps203
 go_wp2
 go_loopw [8, 5] (fun i _ wr => ∃ k : Nat, k <= n /\ i = .int .i64 (k : Int) /\ R k wr /\ wr.heap[g]? = some (.cells cur 144 (0, 0)) /\ ∀ j : Nat, j < k -> ds[j]? = some false) (fun i _ _ => n - (intOf i).toNat)
 case atStart => exact ⟨0, Nat.zero_le _, rfl, HR0.out, HG.out, fun j hj => absurd hj (by omega)⟩
 case round =>
  obtain ⟨k, hk, rfl, hR, hgr, hno⟩ := hrel
  have HR := zh hR
  have HGR := zh hgr
  have HNO := zh hno
  clear hR hgr hno
  by_cases hlt : k < n
  ·obtain ⟨p, hp⟩ : ∃ p, ps[k]? = some p := ⟨_, zg (by have := HPL.out; omega)⟩
   obtain ⟨d, hd⟩ : ∃ d, ds[k]? = some d := ⟨_, zg (by have := HDL.out; omega)⟩
   have hcell : wr.cell? ⟨g, k, none⟩ = some (ptrV p) := by rw [Z1 HGR.out]; exact HCUR.out k p hp
   have lg := Ze hcell
   dsimp only at lg
   have HC := zh (HF.out k p d wr HR.out hp hd)
   have HD := zh hd
   have hw1 : IntKind.i64.wrap ((k : Int) + 1) = ((k + 1 : Nat) : Int) := by rw [ZE _ (by omega) (by omega)]; rfl
   clear hp hd
   go_wp2_with fail
   refine HC.out.mono ?_
   rintro e w2 ⟨rfl, hR2, hg2⟩
   have HR2 := zh hR2
   have HG2 := zh (hg2 _ HGR.out)
   clear hR2 hg2 HC hcell lg
   cases d with
   | true =>
    have Zc : Hid (Z8 (.returned (.int .i64 (k : Int))) w2) := by
     rw [<- Zb.out]
     exact ⟨HG2.out, Or.inl ⟨k, hlt, HD.out, HNO.out, rfl, HR2.out⟩⟩
    go_wp2
    exact Zc.out
   | false =>
    go_wp2
    go_roundw
    case rel => exact ⟨k + 1, by omega, by first | rfl | go_num, HR2.out, HG2.out, fun j hj => by
                  by_cases e : j = k
                  · rw [e]; exact HD.out
                  · exact HNO.out j (by omega)⟩
    case measure => simp [intOf]; omega
  ·obtain rfl : k = n := by omega
   have Zc : Hid (Z8 (.returned (.int .i64 (-1))) wr) := by
    rw [<- Zb.out]
    exact ⟨HGR.out, Or.inr ⟨HNO.out, rfl, HR.out⟩⟩
   go_wp2
   exact Zc.out
theorem deleteT_nil {w : World} {c lc zc oc : Nat} {A : Option Addr} :
  Calls Tryz.prog 193 #[.slice A 0 c, .func (.func 194) #[] #[ptrV lc, ptrV zc, ptrV oc]] w (fun e w' => e = .returned (.slice A 0 c) /\ w' = w) := by
 have HI : Hid (Calls Tryz.prog 203 #[.slice A 0 c, .func (.func 194) #[] #[ptrV lc, ptrV zc, ptrV oc]] w (fun e w' => e = .returned (.int .i64 (-1)) /\ w' = w)) := by
  go_enter Tryz.func203, Tryz.ntmps203
  go_wp2
  refine wp_loop_rounds 1 ?_
  rw [rounds_succ]
  go_wp2
  go_ret
  exact ⟨rfl, rfl⟩
 go_enter Tryz.func193, Tryz.ntmps193
 go_wp2_with fail
 refine HI.out.mono ?_
 rintro e w1 ⟨rfl, rfl⟩
 go_wp2
 go_ret
 exact ⟨rfl, rfl⟩
theorem ZcO {w : World} {g c n lc zc oc : Nat} {ps : List Nat} {ds : List Bool} {R : Nat -> World -> Prop} {cur : Array Value} (hpl : ps.length = n) (hdl : ds.length = n) (hc : n <= c) (hm : c <= maxLen) (hn : n <= 100000) (hg : w.heap[g]? = some (.cells cur 144 (0, 0))) (hsz : cur.size = c) (hcur : ∀ (i p : Nat), ps[i]? = some p -> cur[i]? = some (ptrV p))
  (hf : ∀ (k p : Nat) d W, R k W -> ps[k]? = some p -> ds[k]? = some d -> Calls Tryz.prog 194 #[ptrV p, ptrV lc, ptrV zc, ptrV oc] W (fun e w' => e = .returned (.bool d) /\ R (k + 1) w' /\ ∀ o, W.heap[g]? = some o -> w'.heap[g]? = some o)) (hR : ∀ k W W', R k W -> Z0 (· = g) W W' -> R k W') (h0 : R 0 w) :
  Calls Tryz.prog 193 #[.slice (some ⟨g, 0, none⟩) n c, .func (.func 194) #[] #[ptrV lc, ptrV zc, ptrV oc]] w (fun e w' => e = .returned (.slice (some ⟨g, 0, none⟩) (Z07 ps ds n).length c) /\ R n w' /\ ∃ cur', w'.heap[g]? = some (.cells cur' 144 (0, 0)) /\ cur'.size = c /\ ∀ (i p : Nat), (Z07 ps ds n)[i]? = some p -> cur'[i]? = some (ptrV p)) := by
 have HI := zh (ZeI (c := c) hpl hdl hc hm hg hcur hf h0)
 obtain ⟨Z8, Z6⟩ : ∃ Z8 : Ending -> World -> Prop, (fun e w' => e = .returned (.slice (some ⟨g, 0, none⟩) (Z07 ps ds n).length c) /\ R n w' /\ ∃ cur', w'.heap[g]? = some (.cells cur' 144 (0, 0)) /\ cur'.size = c /\ ∀ (i p : Nat), (Z07 ps ds n)[i]? = some p -> cur'[i]? = some (ptrV p)) = Z8 := ⟨_, rfl⟩
 rw [Z6]
 have Zb := zh Z6
 have HCUR := zh hcur
 have HF := zh hf
 have HRG := zh hR
 have HPL := zh hpl
 have HDL := zh hdl
 have HSZ := zh hsz
 unfold maxLen at hm
 clear Z6 hg hcur hf h0 hpl hdl hR hsz
 go_enter Tryz.func193, Tryz.ntmps193
 go_wp2_with fail
 refine HI.out.mono ?_
 rintro e w1 ⟨hg1, hcase⟩
 rcases hcase with ⟨i, hin, hdi, hno, rfl, hR1⟩ | ⟨hno, rfl, hR1⟩
 ·have HG1 := zh hg1
  have HR1 := zh hR1
  have hK1 : (Z07 ps ds (i + 1)).length = i := by
   obtain ⟨p, hp⟩ : ∃ p, ps[i]? = some p := ⟨_, zg (by have := HPL.out; omega)⟩
   rw [Z2B hp hdi]
   have : Z07 ps ds i = ps.take i := Z3a (fun j hj => hno j hj) (by have := HPL.out; have := HDL.out; omega) (by have := HPL.out; omega)
   rw [this]
   simp
   have := HPL.out
   omega
  have hKp : ∀ (j q : Nat), (Z07 ps ds (i + 1))[j]? = some q -> cur[j]? = some (ptrV q) := fun j q hq => by
   obtain ⟨p, hp⟩ : ∃ p, ps[i]? = some p := ⟨_, zg (by have := HPL.out; omega)⟩
   rw [Z2B hp hdi, Z3a (fun j hj => hno j hj) (by have := HPL.out; have := HDL.out; omega) (by have := HPL.out; omega)] at hq
   simp only [if_pos, List.append_nil] at hq
   have hl := (zi.1 hq).1
   rw [List.length_take] at hl
   rw [List.getElem?_take_of_lt (by omega)] at hq
   exact HCUR.out j q hq
  have HK1 := zh hK1
  have HKP := zh hKp
  have hw0 : IntKind.i64.wrap ((i : Int) + 1) = ((i + 1 : Nat) : Int) := by rw [ZE _ (by omega) (by omega)]; rfl
  have hne : ((i : Int) == -1) = false := by simp
  clear hg1 hR1 hno hdi HI hK1 hKp
  go_wp2
  go_loopw [5, 6, 7] (fun m j _ wr => ∃ (k a : Nat) (cr : Array Value), i < k /\ k <= n /\ j = .int .i64 (k : Int) /\ a = (Z07 ps ds k).length /\ a < k /\ m = .int .i64 (a : Int) /\ R k wr /\ wr.heap[g]? = some (.cells cr 144 (0, 0)) /\ cr.size = c /\ (∀ (x q : Nat), (Z07 ps ds k)[x]? = some q -> cr[x]? = some (ptrV q)) /\ ∀ (x q : Nat), k <= x -> ps[x]? = some q -> cr[x]? = some (ptrV q)) (fun _ j _ _ => n - (intOf j).toNat)
  case atStart => exact ⟨i + 1, i, cur, by omega, by omega, by first | rfl | go_num, HK1.out.symm, by omega, rfl, HR1.out, HG1.out, HSZ.out, HKP.out, fun x q _ hq => HCUR.out x q hq⟩
  case round =>
   obtain ⟨k, a, cr, hik, hk, rfl, ha, hak, rfl, hR, hg, hs, hkp, hrest⟩ := hrel
   have HA := zh ha
   have HR := zh hR
   have HG := zh hg
   have HS := zh hs
   have HKQ := zh hkp
   have HRE := zh hrest
   clear ha hR hg hs hkp hrest HG1 HR1 HK1 HKP
   by_cases hlt : k < n
   ·obtain ⟨p, hp⟩ : ∃ p, ps[k]? = some p := ⟨_, zg (by have := HPL.out; omega)⟩
    obtain ⟨d, hd⟩ : ∃ d, ds[k]? = some d := ⟨_, zg (by have := HDL.out; omega)⟩
    have hcell : wr.cell? ⟨g, k, none⟩ = some (ptrV p) := by rw [Z1 HG.out]; exact HRE.out k p (Nat.le_refl _) hp
    have lg := Ze hcell
    dsimp only at lg
    have HC := zh (HF.out k p d wr HR.out hp hd)
    have HSU := zh (Z2B hp hd)
    have HP := zh hp
    have hw1 : IntKind.i64.wrap ((k : Int) + 1) = ((k + 1 : Nat) : Int) := by rw [ZE _ (by omega) (by omega)]; rfl
    have hw2 : IntKind.i64.wrap ((a : Int) + 1) = ((a + 1 : Nat) : Int) := by rw [ZE _ (by omega) (by omega)]; rfl
    clear hp hd
    go_wp2_with fail
    refine HC.out.mono ?_
    rintro e w2 ⟨rfl, hR2, hg2⟩
    have HR2 := zh hR2
    have hgg := hg2 _ HG.out
    have HG2 := zh hgg
    clear hR2 hg2 HC hcell lg
    cases d with
    | true =>
     have e1 : Z07 ps ds (k + 1) = Z07 ps ds k := by rw [HSU.out]; simp
     have E1 := zh e1
     clear hgg e1 hw2
     go_wp2
     go_roundw
     case rel => exact ⟨k + 1, a, cr, by omega, by omega, by first | rfl | go_num, by rw [E1.out]; exact HA.out, by omega, rfl, HR2.out, HG2.out, HS.out, by rw [E1.out]; exact HKQ.out, fun x q hx hq => HRE.out x q (by omega) hq⟩
     case measure => simp [intOf]; omega
    | false =>
     have E1 : Hid (Z07 ps ds (k + 1) = Z07 ps ds k ++ [p]) := by show _ = _; rw [HSU.out]; simp
     have hca : ∃ v, cr[a]? = some v := ⟨_, Array.getElem?_eq_getElem (by have := HS.out; omega)⟩
     obtain ⟨va, hva⟩ := hca
     have hcl : w2.cell? ⟨g, a, none⟩ = some va := by rw [Z1 hgg]; exact hva
     have lg := Z2 hgg
     have gf := fun o => Z7 hgg o
     have HX := zh (Zf hgg a (ptrV p))
     have ho : Z0 (· = g) w2 (w2.setCell ⟨g, a, none⟩ (ptrV p)) := (Z0.refl (· = g) w2).setCell (p := ⟨g, a, none⟩) (fun _ => rfl) _
     have HR3 := zh (HRG.out _ _ _ HR2.out ho)
     clear hgg ho hva
     go_wp2
     go_roundw
     case rel => exact ⟨k + 1, a + 1, cr.setIfInBounds a (ptrV p), by omega, by omega, by first | rfl | go_num, by rw [E1.out, List.length_append, <- HA.out]; rfl, by omega, by first | rfl | go_num, HR3.out, HX.out, by rw [Array.size_setIfInBounds]; exact HS.out, fun x q hx => by
                   rw [E1.out] at hx
                   by_cases e : x = a
                   · subst e
                     rw [List.getElem?_append_right (by have := HA.out; omega)] at hx
                     rw [HA.out, Nat.sub_self] at hx
                     simp at hx
                     subst hx
                     rw [Array.getElem?_setIfInBounds_self_of_lt (by have := HS.out; omega)]
                   · have hl := (zi.1 hx).1
                     rw [List.length_append] at hl
                     simp only [List.length_cons, List.length_nil] at hl
                     rw [List.getElem?_append_left (by have := HA.out; omega)] at hx
                     rw [Array.getElem?_setIfInBounds_ne (by omega)]
                     exact HKQ.out x q hx, fun x q hx hq => by
                   rw [Array.getElem?_setIfInBounds_ne (by omega)]
                   exact HRE.out x q (by omega) hq⟩
     case measure => simp [intOf]; omega
   ·obtain rfl : k = n := by omega
    have hla := Z2 HG.out
    obtain ⟨d, hd⟩ : ∃ d, k - a = d + 1 := ⟨k - a - 1, by omega⟩
    have hfit : a + (d + 1) <= cr.size := by have := HS.out; omega
    obtain ⟨w2, hclr, hg2, ho2⟩ := Z5r (P := Tryz.prog) wr 135 144 Tryz.underlying135 (fun w => by kernel_rfl) (o := a) (d := d) (c := c - a) HG.out hfit
    have HG2 := zh hg2
    have HR2 := zh (HRG.out _ _ _ HR.out ho2)
    have Zc : Hid (Z8 (.returned (.slice (some ⟨g, 0, none⟩) a c)) w2) := by
     rw [<- Zb.out]
     refine ⟨by rw [HA.out], HR2.out, _, HG2.out, ?_, fun x q hx => ?_⟩
     ·rw [Z0d (by rw [List.length_replicate]; exact hfit)]
      exact HS.out
     ·have hl := (zi.1 hx).1
      have := Z7q cr a (List.replicate (d + 1) (.pointer none)) (x := x) (by have := HA.out; omega) (by rw [List.length_replicate]; exact hfit)
      rw [this]
      exact HKQ.out x q hx
    have d1 : ¬ c = a := by omega
    have d2 : (a : Int) <= (k : Int) := by omega
    have d3 : (k : Int) <= (c : Int) := by omega
    have d4 : (a : Int) <= (c : Int) := by omega
    have d5 : ¬ c = 0 := by omega
    rw [<- hd] at hclr
    clear hg2 ho2 hlt hfit hd
    go_wp2
    exact Zc.out
 ·have Zc : Hid (Z8 (.returned (.slice (some ⟨g, 0, none⟩) n c)) w1) := by
   rw [<- Zb.out]
   have e1 : Z07 ps ds n = ps := by
    rw [Z3a (fun j hj => hno j hj) (by have := HPL.out; have := HDL.out; omega) (by have := HPL.out; omega), List.take_of_length_le (by have := HPL.out; omega)]
   exact ⟨by rw [e1, HPL.out], hR1, cur, hg1, HSZ.out, fun x q hx => by rw [e1] at hx; exact HCUR.out x q hx⟩
  clear hg1 hR1 hno HI
  go_wp2
  exact Zc.out
theorem ZeJ {w : World} {g c n lc zc oc oc2 : Nat} {ps : List Nat} {ds : List Bool} {R : Nat -> World -> Prop} {cur : Array Value} (hpl : ps.length = n) (hdl : ds.length = n) (hc : n <= c) (hm : c <= maxLen) (hg : w.heap[g]? = some (.cells cur 159 (0, 0))) (hcur : ∀ (i p : Nat), ps[i]? = some p -> cur[i]? = some (ptrV p))
  (hf : ∀ (k p : Nat) d W, R k W -> ps[k]? = some p -> ds[k]? = some d -> Calls Tryz.prog 197 #[ptrV p, ptrV lc, ptrV zc, ptrV oc, ptrV oc2] W (fun e w' => e = .returned (.bool d) /\ R (k + 1) w' /\ ∀ o, W.heap[g]? = some o -> w'.heap[g]? = some o)) (h0 : R 0 w) :
  Calls Tryz.prog 204 #[.slice (some ⟨g, 0, none⟩) n c, .func (.func 197) #[] #[ptrV lc, ptrV zc, ptrV oc, ptrV oc2]] w (fun e w' => w'.heap[g]? = some (.cells cur 159 (0, 0)) /\ ((∃ i : Nat, i < n /\ ds[i]? = some true /\ (∀ j : Nat, j < i -> ds[j]? = some false) /\ e = .returned (.int .i64 (i : Int)) /\ R (i + 1) w') ∨ ((∀ j : Nat, j < n -> ds[j]? = some false) /\ e = .returned (.int .i64 (-1)) /\ R n w'))) := by
 obtain ⟨Z8, Z6⟩ : ∃ Z8 : Ending -> World -> Prop, (fun e w' => w'.heap[g]? = some (.cells cur 159 (0, 0)) /\ ((∃ i : Nat, i < n /\ ds[i]? = some true /\ (∀ j : Nat, j < i -> ds[j]? = some false) /\ e = .returned (.int .i64 (i : Int)) /\ R (i + 1) w') ∨ ((∀ j : Nat, j < n -> ds[j]? = some false) /\ e = .returned (.int .i64 (-1)) /\ R n w'))) = Z8 := ⟨_, rfl⟩
 rw [Z6]
 have Zb := zh Z6
 have HG := zh hg
 have HCUR := zh hcur
 have HF := zh hf
 have HR0 := zh h0
 have HPL := zh hpl
 have HDL := zh hdl
 unfold maxLen at hm
 clear Z6 hg hcur hf h0 hpl hdl
 go_enter Tryz.func204, Tryz.ntmps204
 go_wp2
 go_loopw [8, 5] (fun i _ wr => ∃ k : Nat, k <= n /\ i = .int .i64 (k : Int) /\ R k wr /\ wr.heap[g]? = some (.cells cur 159 (0, 0)) /\ ∀ j : Nat, j < k -> ds[j]? = some false) (fun i _ _ => n - (intOf i).toNat)
 case atStart => exact ⟨0, Nat.zero_le _, rfl, HR0.out, HG.out, fun j hj => absurd hj (by omega)⟩
 case round =>
  obtain ⟨k, hk, rfl, hR, hgr, hno⟩ := hrel
  have HR := zh hR
  have HGR := zh hgr
  have HNO := zh hno
  clear hR hgr hno
  by_cases hlt : k < n
  ·obtain ⟨p, hp⟩ : ∃ p, ps[k]? = some p := ⟨_, zg (by have := HPL.out; omega)⟩
   obtain ⟨d, hd⟩ : ∃ d, ds[k]? = some d := ⟨_, zg (by have := HDL.out; omega)⟩
   have hcell : wr.cell? ⟨g, k, none⟩ = some (ptrV p) := by rw [Z1 HGR.out]; exact HCUR.out k p hp
   have lg := Ze hcell
   dsimp only at lg
   have HC := zh (HF.out k p d wr HR.out hp hd)
   have HD := zh hd
   have hw1 : IntKind.i64.wrap ((k : Int) + 1) = ((k + 1 : Nat) : Int) := by rw [ZE _ (by omega) (by omega)]; rfl
   clear hp hd
   go_wp2_with fail
   refine HC.out.mono ?_
   rintro e w2 ⟨rfl, hR2, hg2⟩
   have HR2 := zh hR2
   have HG2 := zh (hg2 _ HGR.out)
   clear hR2 hg2 HC hcell lg
   cases d with
   | true =>
    have Zc : Hid (Z8 (.returned (.int .i64 (k : Int))) w2) := by
     rw [<- Zb.out]
     exact ⟨HG2.out, Or.inl ⟨k, hlt, HD.out, HNO.out, rfl, HR2.out⟩⟩
    go_wp2
    exact Zc.out
   | false =>
    go_wp2
    go_roundw
    case rel => exact ⟨k + 1, by omega, by first | rfl | go_num, HR2.out, HG2.out, fun j hj => by
                  by_cases e : j = k
                  · rw [e]; exact HD.out
                  · exact HNO.out j (by omega)⟩
    case measure => simp [intOf]; omega
  ·obtain rfl : k = n := by omega
   have Zc : Hid (Z8 (.returned (.int .i64 (-1))) wr) := by
    rw [<- Zb.out]
    exact ⟨HGR.out, Or.inr ⟨HNO.out, rfl, HR.out⟩⟩
   go_wp2
   exact Zc.out
theorem deleteX_nil {w : World} {c lc zc oc oc2 : Nat} {A : Option Addr} :
  Calls Tryz.prog 196 #[.slice A 0 c, .func (.func 197) #[] #[ptrV lc, ptrV zc, ptrV oc, ptrV oc2]] w (fun e w' => e = .returned (.slice A 0 c) /\ w' = w) := by
 have HI : Hid (Calls Tryz.prog 204 #[.slice A 0 c, .func (.func 197) #[] #[ptrV lc, ptrV zc, ptrV oc, ptrV oc2]] w (fun e w' => e = .returned (.int .i64 (-1)) /\ w' = w)) := by
  go_enter Tryz.func204, Tryz.ntmps204
  go_wp2
  refine wp_loop_rounds 1 ?_
  rw [rounds_succ]
  go_wp2
  go_ret
  exact ⟨rfl, rfl⟩
 go_enter Tryz.func196, Tryz.ntmps196
 go_wp2_with fail
 refine HI.out.mono ?_
 rintro e w1 ⟨rfl, rfl⟩
 go_wp2
 go_ret
 exact ⟨rfl, rfl⟩
theorem ZcP {w : World} {g c n lc zc oc oc2 : Nat} {ps : List Nat} {ds : List Bool} {R : Nat -> World -> Prop} {cur : Array Value} (hpl : ps.length = n) (hdl : ds.length = n) (hc : n <= c) (hm : c <= maxLen) (hn : n <= 100000) (hg : w.heap[g]? = some (.cells cur 159 (0, 0))) (hsz : cur.size = c) (hcur : ∀ (i p : Nat), ps[i]? = some p -> cur[i]? = some (ptrV p))
  (hf : ∀ (k p : Nat) d W, R k W -> ps[k]? = some p -> ds[k]? = some d -> Calls Tryz.prog 197 #[ptrV p, ptrV lc, ptrV zc, ptrV oc, ptrV oc2] W (fun e w' => e = .returned (.bool d) /\ R (k + 1) w' /\ ∀ o, W.heap[g]? = some o -> w'.heap[g]? = some o)) (hR : ∀ k W W', R k W -> Z0 (· = g) W W' -> R k W') (h0 : R 0 w) :
  Calls Tryz.prog 196 #[.slice (some ⟨g, 0, none⟩) n c, .func (.func 197) #[] #[ptrV lc, ptrV zc, ptrV oc, ptrV oc2]] w (fun e w' => e = .returned (.slice (some ⟨g, 0, none⟩) (Z07 ps ds n).length c) /\ R n w' /\ ∃ cur', w'.heap[g]? = some (.cells cur' 159 (0, 0)) /\ cur'.size = c /\ ∀ (i p : Nat), (Z07 ps ds n)[i]? = some p -> cur'[i]? = some (ptrV p)) := by
 have HI := zh (ZeJ (c := c) hpl hdl hc hm hg hcur hf h0)
 obtain ⟨Z8, Z6⟩ : ∃ Z8 : Ending -> World -> Prop, (fun e w' => e = .returned (.slice (some ⟨g, 0, none⟩) (Z07 ps ds n).length c) /\ R n w' /\ ∃ cur', w'.heap[g]? = some (.cells cur' 159 (0, 0)) /\ cur'.size = c /\ ∀ (i p : Nat), (Z07 ps ds n)[i]? = some p -> cur'[i]? = some (ptrV p)) = Z8 := ⟨_, rfl⟩
 rw [Z6]
 have Zb := zh Z6
 have HCUR := zh hcur
 have HF := zh hf
 have HRG := zh hR
 have HPL := zh hpl
 have HDL := zh hdl
 have HSZ := zh hsz
 unfold maxLen at hm
 clear Z6 hg hcur hf h0 hpl hdl hR hsz
 go_enter Tryz.func196, Tryz.ntmps196
 go_wp2_with fail
 refine HI.out.mono ?_
 rintro e w1 ⟨hg1, hcase⟩
 rcases hcase with ⟨i, hin, hdi, hno, rfl, hR1⟩ | ⟨hno, rfl, hR1⟩
 ·have HG1 := zh hg1
  have HR1 := zh hR1
  have hK1 : (Z07 ps ds (i + 1)).length = i := by
   obtain ⟨p, hp⟩ : ∃ p, ps[i]? = some p := ⟨_, zg (by have := HPL.out; omega)⟩
   rw [Z2B hp hdi]
   have : Z07 ps ds i = ps.take i := Z3a (fun j hj => hno j hj) (by have := HPL.out; have := HDL.out; omega) (by have := HPL.out; omega)
   rw [this]
   simp
   have := HPL.out
   omega
  have hKp : ∀ (j q : Nat), (Z07 ps ds (i + 1))[j]? = some q -> cur[j]? = some (ptrV q) := fun j q hq => by
   obtain ⟨p, hp⟩ : ∃ p, ps[i]? = some p := ⟨_, zg (by have := HPL.out; omega)⟩
   rw [Z2B hp hdi, Z3a (fun j hj => hno j hj) (by have := HPL.out; have := HDL.out; omega) (by have := HPL.out; omega)] at hq
   simp only [if_pos, List.append_nil] at hq
   have hl := (zi.1 hq).1
   rw [List.length_take] at hl
   rw [List.getElem?_take_of_lt (by omega)] at hq
   exact HCUR.out j q hq
  have HK1 := zh hK1
  have HKP := zh hKp
  have hw0 : IntKind.i64.wrap ((i : Int) + 1) = ((i + 1 : Nat) : Int) := by rw [ZE _ (by omega) (by omega)]; rfl
  have hne : ((i : Int) == -1) = false := by simp
  clear hg1 hR1 hno hdi HI hK1 hKp
  go_wp2
  go_loopw [5, 6, 7] (fun m j _ wr => ∃ (k a : Nat) (cr : Array Value), i < k /\ k <= n /\ j = .int .i64 (k : Int) /\ a = (Z07 ps ds k).length /\ a < k /\ m = .int .i64 (a : Int) /\ R k wr /\ wr.heap[g]? = some (.cells cr 159 (0, 0)) /\ cr.size = c /\ (∀ (x q : Nat), (Z07 ps ds k)[x]? = some q -> cr[x]? = some (ptrV q)) /\ ∀ (x q : Nat), k <= x -> ps[x]? = some q -> cr[x]? = some (ptrV q)) (fun _ j _ _ => n - (intOf j).toNat)
  case atStart => exact ⟨i + 1, i, cur, by omega, by omega, by first | rfl | go_num, HK1.out.symm, by omega, rfl, HR1.out, HG1.out, HSZ.out, HKP.out, fun x q _ hq => HCUR.out x q hq⟩
  case round =>
   obtain ⟨k, a, cr, hik, hk, rfl, ha, hak, rfl, hR, hg, hs, hkp, hrest⟩ := hrel
   have HA := zh ha
   have HR := zh hR
   have HG := zh hg
   have HS := zh hs
   have HKQ := zh hkp
   have HRE := zh hrest
   clear ha hR hg hs hkp hrest HG1 HR1 HK1 HKP
   by_cases hlt : k < n
   ·obtain ⟨p, hp⟩ : ∃ p, ps[k]? = some p := ⟨_, zg (by have := HPL.out; omega)⟩
    obtain ⟨d, hd⟩ : ∃ d, ds[k]? = some d := ⟨_, zg (by have := HDL.out; omega)⟩
    have hcell : wr.cell? ⟨g, k, none⟩ = some (ptrV p) := by rw [Z1 HG.out]; exact HRE.out k p (Nat.le_refl _) hp
    have lg := Ze hcell
    dsimp only at lg
    have HC := zh (HF.out k p d wr HR.out hp hd)
    have HSU := zh (Z2B hp hd)
    have HP := zh hp
    have hw1 : IntKind.i64.wrap ((k : Int) + 1) = ((k + 1 : Nat) : Int) := by rw [ZE _ (by omega) (by omega)]; rfl
    have hw2 : IntKind.i64.wrap ((a : Int) + 1) = ((a + 1 : Nat) : Int) := by rw [ZE _ (by omega) (by omega)]; rfl
    clear hp hd
    go_wp2_with fail
    refine HC.out.mono ?_
    rintro e w2 ⟨rfl, hR2, hg2⟩
    have HR2 := zh hR2
    have hgg := hg2 _ HG.out
    have HG2 := zh hgg
    clear hR2 hg2 HC hcell lg
    cases d with
    | true =>
     have e1 : Z07 ps ds (k + 1) = Z07 ps ds k := by rw [HSU.out]; simp
     have E1 := zh e1
     clear hgg e1 hw2
     go_wp2
     go_roundw
     case rel => exact ⟨k + 1, a, cr, by omega, by omega, by first | rfl | go_num, by rw [E1.out]; exact HA.out, by omega, rfl, HR2.out, HG2.out, HS.out, by rw [E1.out]; exact HKQ.out, fun x q hx hq => HRE.out x q (by omega) hq⟩
     case measure => simp [intOf]; omega
    | false =>
     have E1 : Hid (Z07 ps ds (k + 1) = Z07 ps ds k ++ [p]) := by show _ = _; rw [HSU.out]; simp
     have hca : ∃ v, cr[a]? = some v := ⟨_, Array.getElem?_eq_getElem (by have := HS.out; omega)⟩
     obtain ⟨va, hva⟩ := hca
     have hcl : w2.cell? ⟨g, a, none⟩ = some va := by rw [Z1 hgg]; exact hva
     have lg := Z2 hgg
     have gf := fun o => Z7 hgg o
     have HX := zh (Zf hgg a (ptrV p))
     have ho : Z0 (· = g) w2 (w2.setCell ⟨g, a, none⟩ (ptrV p)) := (Z0.refl (· = g) w2).setCell (p := ⟨g, a, none⟩) (fun _ => rfl) _
     have HR3 := zh (HRG.out _ _ _ HR2.out ho)
     clear hgg ho hva
     go_wp2
     go_roundw
     case rel => exact ⟨k + 1, a + 1, cr.setIfInBounds a (ptrV p), by omega, by omega, by first | rfl | go_num, by rw [E1.out, List.length_append, <- HA.out]; rfl, by omega, by first | rfl | go_num, HR3.out, HX.out, by rw [Array.size_setIfInBounds]; exact HS.out, fun x q hx => by
                   rw [E1.out] at hx
                   by_cases e : x = a
                   · subst e
                     rw [List.getElem?_append_right (by have := HA.out; omega)] at hx
                     rw [HA.out, Nat.sub_self] at hx
                     simp at hx
                     subst hx
                     rw [Array.getElem?_setIfInBounds_self_of_lt (by have := HS.out; omega)]
                   · have hl := (zi.1 hx).1
                     rw [List.length_append] at hl
                     simp only [List.length_cons, List.length_nil] at hl
                     rw [List.getElem?_append_left (by have := HA.out; omega)] at hx
                     rw [Array.getElem?_setIfInBounds_ne (by omega)]
                     exact HKQ.out x q hx, fun x q hx hq => by
                   rw [Array.getElem?_setIfInBounds_ne (by omega)]
                   exact HRE.out x q (by omega) hq⟩
     case measure => simp [intOf]; omega
   ·obtain rfl : k = n := by omega
    have hla := Z2 HG.out
    obtain ⟨d, hd⟩ : ∃ d, k - a = d + 1 := ⟨k - a - 1, by omega⟩
    have hfit : a + (d + 1) <= cr.size := by have := HS.out; omega
    obtain ⟨w2, hclr, hg2, ho2⟩ := Z5r (P := Tryz.prog) wr 136 159 Tryz.underlying136 (fun w => by kernel_rfl) (o := a) (d := d) (c := c - a) HG.out hfit
    have HG2 := zh hg2
    have HR2 := zh (HRG.out _ _ _ HR.out ho2)
    have Zc : Hid (Z8 (.returned (.slice (some ⟨g, 0, none⟩) a c)) w2) := by
     rw [<- Zb.out]
     refine ⟨by rw [HA.out], HR2.out, _, HG2.out, ?_, fun x q hx => ?_⟩
     ·rw [Z0d (by rw [List.length_replicate]; exact hfit)]
      exact HS.out
     ·have hl := (zi.1 hx).1
      have := Z7q cr a (List.replicate (d + 1) (.pointer none)) (x := x) (by have := HA.out; omega) (by rw [List.length_replicate]; exact hfit)
      rw [this]
      exact HKQ.out x q hx
    have d1 : ¬ c = a := by omega
    have d2 : (a : Int) <= (k : Int) := by omega
    have d3 : (k : Int) <= (c : Int) := by omega
    have d4 : (a : Int) <= (c : Int) := by omega
    have d5 : ¬ c = 0 := by omega
    rw [<- hd] at hclr
    clear hg2 ho2 hlt hfit hd
    go_wp2
    exact Zc.out
 ·have Zc : Hid (Z8 (.returned (.slice (some ⟨g, 0, none⟩) n c)) w1) := by
   rw [<- Zb.out]
   have e1 : Z07 ps ds n = ps := by
    rw [Z3a (fun j hj => hno j hj) (by have := HPL.out; have := HDL.out; omega) (by have := HPL.out; omega), List.take_of_length_le (by have := HPL.out; omega)]
   exact ⟨by rw [e1, HPL.out], hR1, cur, hg1, HSZ.out, fun x q hx => by rw [e1] at hx; exact HCUR.out x q hx⟩
  clear hg1 hR1 hno HI
  go_wp2
  exact Zc.out
def Z0P (w : World) (p : Nat) (e : EB) : Prop := w.heap[p]? = some (.cells (.int .u64 (e.id : Int) :: .string e.name :: .int .u64 (e.xmin : Int) :: .int .u64 (e.xmax : Int) :: e.rest).toArray e.ty (0, 0))
theorem Z0P.ent {w : World} {p : Nat} {e : EB} (h : Z0P w p e) : Z52 w p e.id e.name e.xmin e.xmax :=
 ⟨by rw [Z1 h]; rfl, by rw [Z1 h]; rfl, by rw [Z1 h]; rfl, by rw [Z1 h]; rfl⟩
theorem Z0P.kept {S : Nat -> Prop} {w w' : World} {p : Nat} {e : EB} (h : Z0P w p e) (ho : Z0 S w w') (hn : ¬ S p) : Z0P w' p e := ho.get h hn
theorem Z0P.set {w : World} {p own : Nat} {e : EB} (h : Z0P w p e) : Z0P (w.setCell ⟨p, 3, none⟩ (.int .u64 (own : Int))) p { e with xmax := own } := by
 unfold Z0P at *
 rw [Zf h]
 simp
theorem Z0P.id_eq {w : World} {p : Nat} {e e' : EB} (h : Z0P w p e) (h' : Z0P w p e') : e.id = e'.id := by
 unfold Z0P at *
 rw [h] at h'
 injection h' with h'
 injection h' with h1
 have := congrArg (fun a : Array Value => a[0]?) h1
 simp at this
 omega
def Z6E (w : World) (ps : List Nat) (es : List EB) (own : Nat) (ok : Bool) (e : Ending) (w' : World) : Prop :=
 if ok then e = .returned (.int .i64 0) /\ Z0 (fun k => k ∈ ps) w w' /\ ∀ (i p : Nat) (x : EB), ps[i]? = some p -> es[i]? = some x -> Z0P w' p { x with xmax := own }
 else e = .returned (.int .i64 11) /\ Quiet w w'
theorem ZcQ (L : List Nat) (y : Zo) (a b : Nat) : freeS L y a b = 0 ∨ freeS L y a b = 11 ∨ freeS L y a b = 14 := by
 unfold freeS
 split
 ·exact Or.inr (Or.inl rfl)
 ·split
  ·exact Or.inr (Or.inr rfl)
  ·exact Or.inl rfl
theorem Zdm {w : World} {S : Nat -> Prop} {A : Option Addr} {n i p : Nat} {ps : List Nat} (hr : Rd w S 1 A n (ps.map ptrV)) (hp : ps[i]? = some p) : ∃ b off, A = some ⟨b, off, none⟩ /\ S b /\ w.cell? ⟨b, off + i, none⟩ = some (ptrV p) := by
 have hl : (ps.map ptrV).length ≠ 0 := by
  rw [List.length_map]
  have := (zi.1 hp).1
  omega
 obtain ⟨b, off, e, hs, hc⟩ := hr.cells (by omega)
 exact ⟨b, off, e, hs, hc i (ptrV p) (by rw [List.getElem?_map, hp]; rfl)⟩
theorem ZhM {w : World} {F Sn Sv : Nat -> Prop} {lb c cy n : Nat} {L : List Nat} {y : Zo} {A Ay : Option Addr} {ps : List Nat} {es : List EB} (hr : Rd w Sv 1 A n (ps.map ptrV)) (hpl : ps.length = n) (hn : n <= 1000) (hc : n <= c) (hm : c <= maxLen) (hl : Zy w F lb L) (hy : Z0q w Sn Ay cy y)
  (hel : es.length = n) (hent : ∀ (i p : Nat) (x : EB), ps[i]? = some p -> es[i]? = some x -> Z0P w p x) (hnum : ∀ x ∈ es, U64 x.xmin /\ U64 x.xmax) (hS : ∀ k, Sv k -> k ∉ ps) (hnd : ps.Nodup) :
  Calls Tryz.prog 105 #[ptrV lb, Zk y Ay cy, .slice A n c] w (Z6E w ps es y.own (es.all (fun x => decide (freeS L y x.xmin x.xmax = 0)))) := by
 have HQ0 : Hid (Quiet w (w.alloc (.cells (snapCells y Ay cy) 84))) := (Z0.refl _ _).alloc _
 have HB0 := zh (Z5 w (.cells (snapCells y Ay cy) 84))
 have HR := zh hr
 have HPL := zh hpl
 have HEL := zh hel
 have HL := zh hl
 have HY := zh hy
 have HENT := zh hent
 have HNUM := zh hnum
 have HS := zh hS
 have HND := zh hnd
 have HPW : Hid (∀ p ∈ ps, p < w.heap.size) := fun p hp => by
  obtain ⟨i, hi⟩ := List.mem_iff_getElem?.1 hp
  obtain ⟨x, hx⟩ : ∃ x, es[i]? = some x := ⟨_, zg (by have := (zi.1 hi).1; omega)⟩
  exact Z2 (hent i p x hi hx)
 obtain ⟨Z8, Z6⟩ : ∃ Z8, Z6E w ps es y.own (es.all (fun x => decide (freeS L y x.xmin x.xmax = 0))) = Z8 := ⟨_, rfl⟩
 rw [Z6]
 have Zb := zh Z6
 unfold maxLen at hm
 clear hr hpl hel hl hy hent hnum hS hnd Z6
 unfold Zk
 go_enter Tryz.func105, Tryz.ntmps105
 go_wp2
 go_loopw [13] (fun i wr => ∃ k : Nat, k <= n /\ i = .int .i64 (k : Int) /\ Quiet w wr /\ wr.heap[w.heap.size]? = some (.cells (snapCells y Ay cy) 84 (0, 0)) /\ ∀ (j : Nat) x, j < k -> es[j]? = some x -> freeS L y x.xmin x.xmax = 0) (fun i _ => n - (intOf i).toNat)
 case atStart => exact ⟨0, Nat.zero_le _, rfl, HQ0.out, HB0.out, fun j x hj => absurd hj (by omega)⟩
 case round =>
  obtain ⟨k, hk, rfl, hq, hb, hok⟩ := hrel
  clear HB0 HQ0
  have HQ := zh hq
  have HB := zh hb
  have HOK := zh hok
  clear hok
  by_cases hlt : k < n
  ·obtain ⟨p, hp⟩ : ∃ p, ps[k]? = some p := ⟨_, zg (by have := HPL.out; omega)⟩
   obtain ⟨x, hx⟩ : ∃ x, es[k]? = some x := ⟨_, zg (by have := HEL.out; omega)⟩
   obtain ⟨bl, off, rfl, _, hcl⟩ := Zdm (HR.out.kept hq (fun _ _ x => x)) hp
   obtain ⟨hx1, hx2⟩ := HNUM.out x (List.mem_of_getElem? hx)
   have HTU : Hid (∀ W, Quiet wr W -> Calls Tryz.prog 141 #[.pointer (some ⟨p, 0, none⟩)] W fun e w' => e = .returned (Zt (Z58 x.xmin x.xmax) none 0) /\ Quiet W w') := fun W hq2 => Z59 ((HENT.out k p x hp hx).kept (HQ.out.trans hq2) (fun x => x)).ent
   have HFR : Hid (∀ W, Quiet wr W -> Calls Tryz.prog 94 #[.pointer (some ⟨lb, 0, none⟩), Zk y Ay cy, Zt (Z58 x.xmin x.xmax) none 0] W fun e w' => e = .returned (.int .i64 (freeS L y x.xmin x.xmax : Int)) /\ Quiet W w') := fun W hq2 => Z9S (Z58 x.xmin x.xmax) none 0 (HL.out.kept (HQ.out.trans hq2) (fun _ _ x => x)) (HY.out.kept (HQ.out.trans hq2) (fun _ _ x => x)) hx1 hx2
   have lcl := Ze hcl
   dsimp only at lcl
   have HS4 : Hid (∀ W, Quiet wr W -> (fun w' => w'.cell? ⟨w.heap.size, 0, none⟩ = some (.int .u64 (y.own : Int)) /\ w'.cell? ⟨w.heap.size, 1, none⟩ = some (.int .u64 (y.xmin : Int)) /\ w'.cell? ⟨w.heap.size, 2, none⟩ = some (.int .u64 (y.xmax : Int)) /\ w'.cell? ⟨w.heap.size, 3, none⟩ = some (.slice Ay y.run.length cy)) W) := fun W hq2 => Zv (hq2.get HB.out (fun x => x))
   rw [Z8l] at HTU HFR
   unfold Zk at HFR
   have HX := zh hx
   clear hx1 hx2 hp hq hb hx
   rcases ZcQ L y x.xmin x.xmax with hf | hf | hf
   ·rw [hf] at HFR
    have HF0 := zh hf
    clear hf
    have hw1 : IntKind.i64.wrap ((k : Int) + 1) = ((k + 1 : Nat) : Int) := by rw [ZE _ (by omega) (by omega)]; rfl
    go_wp2_with fail
    refine zH HS4 ((Z0.refl _ _).drew) (fun Z3 => ?_)
    have q0 : Quiet wr wr.drew := (Z0.refl _ _).drew
    generalize wr.drew = d0 at q0 Z3 ⊢
    refine zT 0 ?_
    refine zT 1 ?_
    refine zT 2 ?_
    refine zR 3 ?_
    intro K hK
    go_simp
    go_at_call 141
    refine (HTU.out _ q0).mono ?_
    rintro e d1 ⟨rfl, hq1⟩
    have q1 := q0.trans hq1
    clear hq1
    dsimp only
    refine hK.out _ _ ?_ (fun Z3 => ?_)
    ·exact HS4.out _ q1
    clear hK K
    (try simp only [Act.put, zPA, zPZ, zPS])
    refine zR 4 ?_
    intro K hK
    go_simp
    go_at_call 94
    refine (HFR.out _ q1).mono ?_
    rintro e d2 ⟨rfl, hq2⟩
    have q2 := q1.trans hq2
    clear hq2
    dsimp only
    refine hK.out _ _ ?_ (fun Z3 => ?_)
    ·exact HS4.out _ q2
    clear hK K
    (try simp only [Act.put, zPA, zPZ, zPS])
    refine zT 5 ?_
    refine zD ?_
    have HQ3 := zh (HQ.out.trans q2)
    have HB3 := zh (q2.get HB.out (fun x => x))
    clear Z3 q0 q1 q2 HTU HFR HS4 hcl lcl
    go_wp2
    go_roundw
    case rel => exact ⟨k + 1, by omega, by first | rfl | go_num, HQ3.out, HB3.out, fun j z hj hz => by
                  by_cases e : j = k
                  · subst e
                    have e2 := HX.out.symm.trans hz
                    injection e2 with e2
                    rw [<- e2]
                    exact HF0.out
                  · exact HOK.out j z (by omega) hz⟩
    case measure => simp [intOf]; omega
   ·have HNO : Hid (es.all (fun x => decide (freeS L y x.xmin x.xmax = 0)) = false) := by
     show _ = _
     rw [List.all_eq_false]
     exact ⟨x, List.mem_of_getElem? HX.out, by rw [hf]; decide⟩
    rw [hf] at HFR
    clear hf
    go_wp2_with fail
    refine zH HS4 ((Z0.refl _ _).drew) (fun Z3 => ?_)
    have q0 : Quiet wr wr.drew := (Z0.refl _ _).drew
    generalize wr.drew = d0 at q0 Z3 ⊢
    refine zT 0 ?_
    refine zT 1 ?_
    refine zT 2 ?_
    refine zR 3 ?_
    intro K hK
    go_simp
    go_at_call 141
    refine (HTU.out _ q0).mono ?_
    rintro e d1 ⟨rfl, hq1⟩
    have q1 := q0.trans hq1
    clear hq1
    dsimp only
    refine hK.out _ _ ?_ (fun Z3 => ?_)
    ·exact HS4.out _ q1
    clear hK K
    (try simp only [Act.put, zPA, zPZ, zPS])
    refine zR 4 ?_
    intro K hK
    go_simp
    go_at_call 94
    refine (HFR.out _ q1).mono ?_
    rintro e d2 ⟨rfl, hq2⟩
    have q2 := q1.trans hq2
    clear hq2
    dsimp only
    refine hK.out _ _ ?_ (fun Z3 => ?_)
    ·exact HS4.out _ q2
    clear hK K
    (try simp only [Act.put, zPA, zPZ, zPS])
    refine zT 5 ?_
    refine zD ?_
    have Zc : Hid (Z8 (.returned (.int .i64 11)) d2) := by
     rw [<- Zb.out]
     unfold Z6E
     rw [HNO.out, if_neg (by decide)]
     exact ⟨rfl, HQ.out.trans q2⟩
    clear Z3 q0 q1 q2 HTU HFR HS4 hcl lcl
    go_wp2
    exact Zc.out
   ·have HNO : Hid (es.all (fun x => decide (freeS L y x.xmin x.xmax = 0)) = false) := by
     show _ = _
     rw [List.all_eq_false]
     exact ⟨x, List.mem_of_getElem? HX.out, by rw [hf]; decide⟩
    rw [hf] at HFR
    clear hf
    go_wp2_with fail
    refine zH HS4 ((Z0.refl _ _).drew) (fun Z3 => ?_)
    have q0 : Quiet wr wr.drew := (Z0.refl _ _).drew
    generalize wr.drew = d0 at q0 Z3 ⊢
    refine zT 0 ?_
    refine zT 1 ?_
    refine zT 2 ?_
    refine zR 3 ?_
    intro K hK
    go_simp
    go_at_call 141
    refine (HTU.out _ q0).mono ?_
    rintro e d1 ⟨rfl, hq1⟩
    have q1 := q0.trans hq1
    clear hq1
    dsimp only
    refine hK.out _ _ ?_ (fun Z3 => ?_)
    ·exact HS4.out _ q1
    clear hK K
    (try simp only [Act.put, zPA, zPZ, zPS])
    refine zR 4 ?_
    intro K hK
    go_simp
    go_at_call 94
    refine (HFR.out _ q1).mono ?_
    rintro e d2 ⟨rfl, hq2⟩
    have q2 := q1.trans hq2
    clear hq2
    dsimp only
    refine hK.out _ _ ?_ (fun Z3 => ?_)
    ·exact HS4.out _ q2
    clear hK K
    (try simp only [Act.put, zPA, zPZ, zPS])
    refine zT 5 ?_
    refine zD ?_
    have Zc : Hid (Z8 (.returned (.int .i64 11)) d2) := by
     rw [<- Zb.out]
     unfold Z6E
     rw [HNO.out, if_neg (by decide)]
     exact ⟨rfl, HQ.out.trans q2⟩
    clear Z3 q0 q1 q2 HTU HFR HS4 hcl lcl
    go_wp2
    exact Zc.out
  ·obtain rfl : k = n := by omega
   have HYES : Hid (es.all (fun x => decide (freeS L y x.xmin x.xmax = 0)) = true) := by
    show _ = _
    rw [List.all_eq_true]
    intro x hx
    obtain ⟨i, hi⟩ := List.mem_iff_getElem?.1 hx
    exact decide_eq_true (HOK.out i x (by have := (zi.1 hi).1; have := HEL.out; omega) hi)
   clear hlt hk HOK hq hb
   generalize wr = wq at *
   have hzq := HQ.out.size
   go_wp2
   go_loopw [26] (fun i wr => ∃ k2 : Nat, k2 <= k /\ i = .int .i64 (k2 : Int) /\ Z0 (fun j => j ∈ ps) wq wr /\ ∀ (i p : Nat) (x : EB), ps[i]? = some p -> es[i]? = some x -> Z0P wr p (if i < k2 then { x with xmax := y.own } else x)) (fun i _ => k - (intOf i).toNat)
   case atStart => exact ⟨0, Nat.zero_le _, rfl, Z0.refl _ _, fun i p x hp hx => by
     rw [if_neg (by omega)]
     exact (HENT.out i p x hp hx).kept HQ.out (fun x => x)⟩
   case round =>
    obtain ⟨k2, hk2, rfl, ho2, he2⟩ := hrel
    have HO2 := zh ho2
    have HE2 := zh he2
    by_cases hlt : k2 < k
    ·obtain ⟨p, hp⟩ : ∃ p, ps[k2]? = some p := ⟨_, zg (by have := HPL.out; omega)⟩
     obtain ⟨x, hx⟩ : ∃ x, es[k2]? = some x := ⟨_, zg (by have := HEL.out; omega)⟩
     have hrd : Rd wr Sv 1 A k (ps.map ptrV) := (HR.out.kept HQ.out (fun _ _ x => x)).kept ho2 (fun j a b => HS.out j a b)
     obtain ⟨bl, off, rfl, _, hcl⟩ := Zdm hrd hp
     have lcl := Ze hcl
     dsimp only at lcl
     have hnb : ¬ w.heap.size ∈ ps := fun e => by have := HPW.out _ e; omega
     obtain ⟨b0, b1, b2, b3⟩ := Zv (ho2.get HB.out hnb)
     have hbx := he2 k2 p x hp hx
     rw [if_neg (by omega)] at hbx
     have pf := fun o => Z7 hbx o
     have p3 := hbx.ent.c3
     have lp := Z2 hbx
     have lbx := Ze b0
     dsimp only at lbx
     have HP := zh hp
     have HX := zh hx
     have HBX := zh hbx
     have hw1 : IntKind.i64.wrap ((k2 : Int) + 1) = ((k2 + 1 : Nat) : Int) := by rw [ZE _ (by omega) (by omega)]; rfl
     clear hp hx hbx hrd hnb ho2 he2
     have HOX : Hid (Z0 (fun j => j ∈ ps) wq (wr.setCell ⟨p, 3, none⟩ (.int .u64 (y.own : Int)))) := HO2.out.setCell (p := ⟨p, 3, none⟩) (fun _ => List.mem_of_getElem? HP.out) _
     have HEX : Hid (∀ (i q : Nat) (z : EB), ps[i]? = some q -> es[i]? = some z -> Z0P (wr.setCell ⟨p, 3, none⟩ (.int .u64 (y.own : Int))) q (if i < k2 + 1 then { z with xmax := y.own } else z)) := fun i q z hq hz => by
      by_cases e : i = k2
      ·subst e
       have e1 := HP.out.symm.trans hq
       injection e1 with e1
       have e2 := HX.out.symm.trans hz
       injection e2 with e2
       subst e1 e2
       rw [if_pos (by omega)]
       exact HBX.out.set
      ·have hne : q ≠ p := fun e1 => by
        subst e1
        have := (List.getElem?_inj (zi.1 hq).1 HND.out).1 (hq.trans HP.out.symm)
        omega
       have h1 := HE2.out i q z hq hz
       have h2 : Z0P (wr.setCell ⟨p, 3, none⟩ (.int .u64 (y.own : Int))) q (if i < k2 then { z with xmax := y.own } else z) := Z4M h1 3 _ hne
       by_cases e2 : i < k2
       ·rw [if_pos e2] at h2
        rw [if_pos (by omega)]
        exact h2
       ·rw [if_neg e2] at h2
        rw [if_neg (by omega)]
        exact h2
     go_wp2
     go_roundw
     case rel => exact ⟨k2 + 1, by omega, by first | rfl | go_num, HOX.out, HEX.out⟩
     case measure => simp [intOf]; omega
    ·obtain rfl : k2 = k := by omega
     have Zc : Hid (Z8 (.returned (.int .i64 0)) wr) := by
      rw [<- Zb.out]
      unfold Z6E
      rw [HYES.out, if_pos rfl]
      refine ⟨rfl, (HQ.out.mono (fun _ _ x => x.elim)).trans HO2.out, fun i p x hp hx => ?_⟩
      have := HE2.out i p x hp hx
      rw [if_pos (by have := (zi.1 hp).1; have := HPL.out; omega)] at this
      exact this
     clear ho2 he2
     go_wp2
     exact Zc.out
structure Z1S (W : World) (oc : Nat) (v : Value) (ids : List Nat) : Prop where
 box : W.heap[oc]? = some (.cells #[v] 82 (0, 0))
 own : W.ownsRow 0 34 1 v ids.length (ZB ids)
theorem Z1S.kept {S : Nat -> Prop} {w w' : World} {oc : Nat} {v : Value} {ids : List Nat} (h : Z1S w oc v ids) (ho : Z0 S w w') (hn : ¬ S oc) (hv : ∀ k, v.ownBlock = some k -> ¬ S k) : Z1S w' oc v ids := ⟨ho.get h.box hn, Z4 h.own ho hv⟩
def Z3b (W : World) (oc : Nat) (v : Value) (ids : List Nat) (d : Bool) (id : Nat) (e : Ending) (w' : World) : Prop :=
 e = .returned (.bool d) /\ Z0 (fun k => k = oc ∨ v.ownBlock = some k) W w' /\ ∃ v', Z1S w' oc v' (if d then ids ++ [id] else ids) /\ ∀ k, v'.ownBlock = some k -> v.ownBlock = some k ∨ W.heap.size <= k
theorem Z7U {W d0 d1 d2 : World} {oc id c c2 : Nat} {A A3 : Option Addr} {ids : List Nat} (h : Z1S W oc (.slice A ids.length c) ids) (hq : Quiet W d0) (hg : ZW (d0.alloc (.cells [.int .u64 (id : Int)].toArray 34)) d1 34 1 (.slice A ids.length c) (.slice A3 (ids.length + 1) c2) (ids.length + 1) (ZB ids ++ [.int .u64 (id : Int)])) (hd : d2 = d1.setCell ⟨oc, 0, none⟩ (.slice A3 (ids.length + 1) c2)) :
  Z0 (fun k => k = oc ∨ (Value.slice A ids.length c).ownBlock = some k) W d2 /\ Z1S d2 oc (.slice A3 (ids.length + 1) c2) (ids ++ [id]) /\ ∀ k, (Value.slice A3 (ids.length + 1) c2).ownBlock = some k -> (Value.slice A ids.length c).ownBlock = some k ∨ W.heap.size <= k := by
 subst hd
 have hqa : Quiet W (d0.alloc (.cells [.int .u64 (id : Int)].toArray 34)) := hq.trans ((Z0.refl _ _).alloc _)
 have hz := hqa.size
 have hne : ∀ k, (Value.slice A ids.length c).ownBlock = some k -> k ≠ oc := fun k e e2 => by
  obtain ⟨cc, hh⟩ := Zj h.own e
  exact Za hh h.box (by decide) e2
 have hb1 := hg.only.get (hqa.get h.box (fun x => x)) (fun e => hne _ e rfl)
 have ho2 : Z0 (fun k => k = oc) d1 (d1.setCell ⟨oc, 0, none⟩ (.slice A3 (ids.length + 1) c2)) := (Z0.refl (fun k => k = oc) d1).setCell (p := ⟨oc, 0, none⟩) (fun _ => rfl) _
 have hloc : ∀ k, (Value.slice A3 (ids.length + 1) c2).ownBlock = some k -> (Value.slice A ids.length c).ownBlock = some k ∨ W.heap.size <= k := fun k e => by
  rcases hg.loc with y | y
  ·rw [y] at e; exact Or.inl e
  ·rw [y] at e; injection e with e; exact Or.inr (by omega)
 refine ⟨(((hqa.mono (fun _ _ x => x.elim)).trans (hg.only.mono (fun k _ e => Or.inr e))).trans (ho2.mono (fun k _ e => Or.inl e))), ⟨?_, ?_⟩, hloc⟩
 ·rw [Zf hb1]
  rfl
 ·have e1 : ZB (ids ++ [id]) = ZB ids ++ [.int .u64 (id : Int)] := by simp [ZB]
  rw [e1, List.length_append]
  refine Z4 hg.own ho2 (fun k e e2 => ?_)
  rcases hloc k e with y | y
  ·exact hne k y e2
  ·have := Z2 h.box
   omega
theorem ZeK {w : World} {F : Nat -> Prop} {lb lc zc oc tb hz : Nat} {L : List Nat} {x : EB} {v : Value} {ids : List Nat} (hx : Z0P w tb x) (hl : Zy w F lb L) (h1 : U64 x.xmin) (h2 : U64 x.xmax) (c1 : w.cell? ⟨lc, 0, none⟩ = some (ptrV lb)) (c2 : w.cell? ⟨zc, 0, none⟩ = some (.int .u64 (hz : Int))) (ho : Z1S w oc v ids) (hn : ids.length <= 100000) (hF : ¬ F oc /\ ∀ k, v.ownBlock = some k -> ¬ F k) (hd : lc ≠ oc /\ zc ≠ oc) (hty : x.ty ≠ 82 /\ x.ty ≠ 34) (hlc : ∀ k, v.ownBlock = some k -> k ≠ lc /\ k ≠ zc) :
  Calls Tryz.prog 194 #[ptrV tb, ptrV lc, ptrV zc, ptrV oc] w (Z3b w oc v ids (Z0v L x.xmin x.xmax hz) x.id) := by
 have HD : Hid (∀ W, Z0 (fun k => k = oc ∨ v.ownBlock = some k) w W -> Calls Tryz.prog 195 #[.pointer (some ⟨tb, 0, none⟩), .pointer (some ⟨lb, 0, none⟩), .int .u64 (hz : Int)] W (Z0p W (Z0v L x.xmin x.xmax hz))) := fun W hq =>
  Z8m (hx.kept hq (fun e => by
    rcases e with e | e
    · exact Za hx ho.box hty.1 e
    · obtain ⟨cc, hh⟩ := Zj ho.own e
      exact Za hx hh hty.2 rfl)).ent (hl.kept hq (fun k a e => by
    rcases e with e | e
    · rw [e] at a; exact hF.1 a
    · exact hF.2 k e a)) h1 h2
 have HS1 : Hid (∀ W, Z0 (fun k => k = oc ∨ v.ownBlock = some k) w W -> (fun w' => w'.cell? ⟨lc, 0, none⟩ = some (ptrV lb) /\ w'.cell? ⟨zc, 0, none⟩ = some (.int .u64 (hz : Int))) W) := fun W hq => ⟨hq.cell c1 (fun e => by rcases e with e | e; exact hd.1 e; exact (hlc _ e).1 rfl), hq.cell c2 (fun e => by rcases e with e | e; exact hd.2 e; exact (hlc _ e).2 rfl)⟩
 have hq0 : ∀ W, Quiet w W -> Z0 (fun k => k = oc ∨ v.ownBlock = some k) w W := fun W hq => hq.mono (fun _ _ x => x.elim)
 have HQ0 := zh hq0
 obtain ⟨A, c, rfl, hcl, hcm, _⟩ := Z9 ho.own
 have HX := zh hx
 have HO := zh ho
 have HNE : Hid (∀ k, (Value.slice A ids.length c).ownBlock = some k -> k ≠ oc /\ k ≠ tb) := fun k e => by
  obtain ⟨cc, hh⟩ := Zj ho.own e
  exact ⟨Za hh ho.box (by decide), fun e2 => Za hx hh hty.2 e2.symm⟩
 obtain ⟨Z8, Z6⟩ : ∃ Z8, Z3b w oc (.slice A ids.length c) ids (Z0v L x.xmin x.xmax hz) x.id = Z8 := ⟨_, rfl⟩
 rw [Z6]
 have Zb := zh Z6
 unfold maxLen at hcm
 generalize Z0v L x.xmin x.xmax hz = d at *
 clear Z6 hx hl h1 h2 ho hF hd hty hlc hq0 c1 c2
 go_enter Tryz.func194, Tryz.ntmps194
 go_wp2_with fail
 refine zH HS1 (HQ0.out _ (Z0.refl _ _).drew) (fun Z3 => ?_)
 have q0 : Quiet w w.drew := (Z0.refl _ _).drew
 generalize w.drew = d0 at q0 Z3 ⊢
 refine zT 0 ?_
 refine zT 1 ?_
 refine zT 2 ?_
 refine zT 3 ?_
 refine zT 4 ?_
 refine zR 5 ?_
 intro K hK
 go_simp
 go_at_call 195
 refine (HD.out _ (HQ0.out _ q0)).mono ?_
 rintro e d1 ⟨rfl, hqd⟩
 have q1 := q0.trans hqd
 clear hqd
 dsimp only
 refine hK.out _ _ ?_ (fun Z3 => ?_)
 ·exact HS1.out _ (HQ0.out _ q1)
 clear hK K
 (try simp only [Act.put, zPA, zPZ, zPS])
 refine zD ?_
 have HQ1 : Hid (Quiet w d1) := q1
 clear Z3 q0
 cases d with
 | false =>
  go_wp2_with fail
  refine zH HS1 (HQ0.out _ q1.drew) (fun Z3 => ?_)
  have q2 : Quiet d1 d1.drew := (Z0.refl _ _).drew
  generalize d1.drew = d2 at q2 Z3 ⊢
  refine zT 0 ?_
  refine zT 1 ?_
  refine zT 2 ?_
  refine zT 3 ?_
  refine zT 4 ?_
  refine zR 5 ?_
  intro K hK
  go_simp
  go_at_call 195
  refine (HD.out _ (HQ0.out _ (HQ1.out.trans q2))).mono ?_
  rintro e d3 ⟨rfl, hqd⟩
  have q3 := q2.trans hqd
  clear hqd
  dsimp only
  refine hK.out _ _ ?_ (fun Z3 => ?_)
  ·exact HS1.out _ (HQ0.out _ (HQ1.out.trans q3))
  clear hK K
  (try simp only [Act.put, zPA, zPZ, zPS])
  refine zT 6 ?_
  refine zD ?_
  clear q2
  have q2 := q3
  clear q3
  have Zc : Hid (Z8 (.returned (.bool false)) d3) := by
   rw [<- Zb.out]
   have q3 := q1.trans q2
   exact ⟨rfl, HQ0.out _ q3, _, HO.out.kept q3 (fun x => x) (fun _ _ x => x), fun k e => Or.inl e⟩
  clear Z3 q1 q2 HD HS1
  go_wp2
  exact Zc.out
 | true =>
  obtain ⟨n, hn2⟩ : ∃ n, ids.length = n := ⟨_, rfl⟩
  have HNN := zh hn2
  have HS2 : Hid (∀ W, Quiet d1 W -> (fun w' => w'.cell? ⟨oc, 0, none⟩ = some (.slice A n c) /\ w'.cell? ⟨tb, 0, none⟩ = some (.int .u64 (x.id : Int))) W) := fun W hq => by
   have hq2 := HQ1.out.trans hq
   exact ⟨by rw [Z1 (hq2.get HO.out.box (fun x => x)), <- HNN.out]; rfl, (HX.out.kept hq2 (fun x => x)).ent.c0⟩
  have HOWN : Hid (∀ W, Quiet d1 W -> W.ownsRow 0 34 1 (.slice A n c) n (ZB ids)) := fun W hq => by
   rw [<- HNN.out]
   exact Z4 HO.out.own (HQ1.out.trans hq) (fun _ _ x => x)
  rw [hn2] at hn hcl
  rw [hn2] at HNE HD HS1 HQ0
  clear hn2 q1
  go_wp2_with fail
  refine Z0V (S := (fun w' => w'.cell? ⟨oc, 0, none⟩ = some (.slice A n c) /\ w'.cell? ⟨tb, 0, none⟩ = some (.int .u64 (x.id : Int)))) (by kernel_rfl) (by kernel_rfl) (by simp) (HS2.out _ ((Z0.refl _ _).drew)) (fun Z3 => ?_)
  simp only [List.pop_toArray, List.dropLast, List.size_toArray, List.length_cons, List.length_nil, Nat.reduceAdd, Nat.reduceSub]
  have q0 : Quiet d1 d1.drew := (Z0.refl _ _).drew
  generalize d1.drew = d0 at q0 Z3 ⊢
  refine zT 0 ?_
  refine zT 1 ?_
  refine zT 2 ?_
  refine zT 3 ?_
  refine zT 4 ?_
  refine zT 5 ?_
  refine zR 6 ?_
  intro K hK
  go_simp
  refine hK.out _ _ ?_ (fun Z3 => ?_)
  ·exact HS2.out _ (q0.alloc _)
  clear hK K
  (try simp only [Act.put, zPA, zPZ, zPS])
  have qz : Quiet d1 (d0.alloc (.cells #[.int .u64 (x.id : Int)] 34)) := q0.alloc _
  have hrd := Rd.new d0 1 1 [.int .u64 (x.id : Int)] 34 (fun _ => True) rfl trivial
  obtain ⟨bu, hbu⟩ : ∃ bu, d0.heap.size = bu := ⟨_, rfl⟩
  rw [hbu] at hrd
  (try rw [hbu])
  clear hbu
  refine zR 7 ?_
  intro K hK
  refine Z1T Z3y rfl (.tmp 12) (.tmp 18) rfl rfl (HOWN.out _ qz) rfl hrd (Z4l [x.id]) (by unfold maxLen; omega) (by omega) ?_
  intro v3 d3 hg3
  obtain ⟨A3, c3, rfl, _, _, _⟩ := Z9 (show World.ownsRow d3 0 34 1 v3 (n + 1) (ZB ids ++ [.int .u64 (x.id : Int)]) from hg3.own)
  have hb3 := hg3.only.get ((HQ1.out.trans qz).get HO.out.box (fun x => x)) (fun e => (HNE.out _ e).1 rfl)
  rw [HNN.out] at hb3
  have hx3 := (HX.out.kept (HQ1.out.trans qz) (fun x => x)).kept hg3.only (fun e => (HNE.out _ e).2 rfl)
  refine hK.out _ _ ?_ (fun Z3 => ?_)
  ·exact ⟨by rw [Z1 hb3]; rfl, hx3.ent.c0⟩
  clear hK K
  (try simp only [Act.put, zPA, zPZ, zPS])
  refine zD ?_
  refine Z29 (o := ?_) ?_ ?_
  rotate_left 1
  (focus (simp only [zGA, zGZ, zGS] <;> rfl))
  intro K hK
  have k0 := Z1 hb3 0
  have kf := fun o => Z7 hb3 o
  simp only [zGA, zGS, zGZ] at k0
  have hm := Z7U (d2 := d3.setCell ⟨oc, 0, none⟩ (.slice A3 (ids.length + 1) c3)) HO.out (HQ1.out.trans q0) (by have h := hg3; rw [<- HNN.out] at h; exact h) rfl
  rw [HNN.out] at hm
  go_simp
  refine hK.out _ _ ?_
  clear hK K
  (try dsimp only [Act.put])
  have HX4 : Hid (Z1S (d3.setCell ⟨oc, 0, none⟩ (.slice A3 (n + 1) c3)) oc (.slice A3 (n + 1) c3) (ids ++ [x.id])) := hm.2.1
  have HO4 := zh hm.1
  have HL4 := zh hm.2.2
  clear Z3 q0 qz hg3 hm HS2 HOWN hrd hb3 hx3 k0 kf
  generalize (d3.setCell ⟨oc, 0, none⟩ (.slice A3 (n + 1) c3)) = w4 at *
  go_wp2_with fail
  refine zH HS1 (HO4.out.trans' ((Z0.refl (fun _ => False) w4).drew) (fun _ _ x => x.elim)) (fun Z3 => ?_)
  have q2 : Quiet w4 w4.drew := (Z0.refl _ _).drew
  generalize w4.drew = d5 at q2 Z3 ⊢
  refine zT 0 ?_
  refine zT 1 ?_
  refine zT 2 ?_
  refine zT 3 ?_
  refine zT 4 ?_
  refine zR 5 ?_
  intro K hK
  go_simp
  go_at_call 195
  refine (HD.out _ (HO4.out.trans' q2 (fun _ _ x => x.elim))).mono ?_
  rintro e d6 ⟨rfl, hqd⟩
  have q3 := q2.trans hqd
  clear hqd
  dsimp only
  refine hK.out _ _ ?_ (fun Z3 => ?_)
  ·exact HS1.out _ (HO4.out.trans' q3 (fun _ _ x => x.elim))
  clear hK K
  (try simp only [Act.put, zPA, zPZ, zPS])
  refine zT 6 ?_
  refine zD ?_
  clear q2
  have q2 := q3
  clear q3
  have Zc : Hid (Z8 (.returned (.bool true)) d6) := by
   rw [<- Zb.out]
   unfold Z3b
   rw [HNN.out]
   exact ⟨rfl, HO4.out.trans' q2 (fun _ _ x => x.elim), _, HX4.out.kept q2 (fun x => x) (fun _ _ x => x), HL4.out⟩
  clear Z3 q2 HD HS1
  go_wp2
  exact Zc.out
theorem ZeL {w : World} {F : Nat -> Prop} {lb lc zc tc oc tb hz tid nt ct : Nat} {At : Option Addr} {ts : List Nat} {L : List Nat} {x : EB} {v : Value} {ids : List Nat} (hx : Z0P w tb x) (hl : Zy w F lb L) (h1 : U64 x.xmin) (h2 : U64 x.xmax) (c1 : w.cell? ⟨lc, 0, none⟩ = some (ptrV lb)) (c2 : w.cell? ⟨zc, 0, none⟩ = some (.int .u64 (hz : Int))) (ho : Z1S w oc v ids) (hn : ids.length <= 100000) (hF : ¬ F oc /\ ∀ k, v.ownBlock = some k -> ¬ F k) (hd : lc ≠ oc /\ zc ≠ oc) (hty : x.ty ≠ 82 /\ x.ty ≠ 34) (hlc : ∀ k, v.ownBlock = some k -> k ≠ lc /\ k ≠ zc /\ k ≠ tc) (c3 : w.cell? ⟨tc, 0, none⟩ = some (.slice At nt ct)) (hts : w.ownsRow 0 34 1 (.slice At nt ct) nt (ZB ts)) (htn : ts.length = nt) (htc : tc ≠ oc) (htr : ∀ k, (Value.slice At nt ct).ownBlock = some k -> v.ownBlock ≠ some k) (ctb : w.cell? ⟨tb, 4, none⟩ = some (.int .u64 (tid : Int))) :
  Calls Tryz.prog 197 #[ptrV tb, ptrV lc, ptrV zc, ptrV tc, ptrV oc] w (Z3b w oc v ids (Z0v L x.xmin x.xmax hz || decide (tid ∈ ts)) x.id) := by
 have HD : Hid (∀ W, Z0 (fun k => k = oc ∨ v.ownBlock = some k) w W -> Calls Tryz.prog 195 #[.pointer (some ⟨tb, 0, none⟩), .pointer (some ⟨lb, 0, none⟩), .int .u64 (hz : Int)] W (Z0p W (Z0v L x.xmin x.xmax hz))) := fun W hq =>
  Z8m (hx.kept hq (fun e => by
    rcases e with e | e
    · exact Za hx ho.box hty.1 e
    · obtain ⟨cc, hh⟩ := Zj ho.own e
      exact Za hx hh hty.2 rfl)).ent (hl.kept hq (fun k a e => by
    rcases e with e | e
    · rw [e] at a; exact hF.1 a
    · exact hF.2 k e a)) h1 h2
 have HS1 : Hid (∀ W, Z0 (fun k => k = oc ∨ v.ownBlock = some k) w W -> (fun w' => w'.cell? ⟨lc, 0, none⟩ = some (ptrV lb) /\ w'.cell? ⟨zc, 0, none⟩ = some (.int .u64 (hz : Int)) /\ w'.cell? ⟨tc, 0, none⟩ = some (.slice At nt ct) /\ w'.cell? ⟨tb, 4, none⟩ = some (.int .u64 (tid : Int))) W) := fun W hq => ⟨hq.cell c1 (fun e => by rcases e with e | e; exact hd.1 e; exact (hlc _ e).1 rfl), hq.cell c2 (fun e => by rcases e with e | e; exact hd.2 e; exact (hlc _ e).2.1 rfl), hq.cell c3 (fun e => by rcases e with e | e; exact htc e; exact (hlc _ e).2.2 rfl), hq.cell ctb (fun e => by
   rcases e with e | e
   · exact Za hx ho.box hty.1 e
   · obtain ⟨cc, hh⟩ := Zj ho.own e
     exact Za hx hh hty.2 rfl)⟩
 have HCN : Hid (∀ W, Quiet w W -> Calls Tryz.prog 164 #[.slice At nt ct, .int .u64 (tid : Int)] W (Z0p W (decide (tid ∈ ts)))) := fun W hq => by
  obtain ⟨A', c', e', h5, h6, h7⟩ := Z9 hts
  injection e' with e1 _ e2
  subst e1 e2
  subst htn
  refine (Z6g (x := tid) (h7.kept hq (fun _ _ x => x)) h5 h6).mono ?_
  rintro e w' ⟨rfl, rfl⟩
  exact ⟨rfl, Z0.refl _ _⟩
 have hq0 : ∀ W, Quiet w W -> Z0 (fun k => k = oc ∨ v.ownBlock = some k) w W := fun W hq => hq.mono (fun _ _ x => x.elim)
 have HQ0 := zh hq0
 obtain ⟨A, c, rfl, hcl, hcm, _⟩ := Z9 ho.own
 have HX := zh hx
 have HO := zh ho
 have HNE : Hid (∀ k, (Value.slice A ids.length c).ownBlock = some k -> k ≠ oc /\ k ≠ tb) := fun k e => by
  obtain ⟨cc, hh⟩ := Zj ho.own e
  exact ⟨Za hh ho.box (by decide), fun e2 => Za hx hh hty.2 e2.symm⟩
 obtain ⟨Z8, Z6⟩ : ∃ Z8, Z3b w oc (.slice A ids.length c) ids (Z0v L x.xmin x.xmax hz || decide (tid ∈ ts)) x.id = Z8 := ⟨_, rfl⟩
 rw [Z6]
 have Zb := zh Z6
 unfold maxLen at hcm
 obtain ⟨d, hdd⟩ : ∃ d, Z0v L x.xmin x.xmax hz = d := ⟨_, rfl⟩
 obtain ⟨ct2, hct2⟩ : ∃ ct2, decide (tid ∈ ts) = ct2 := ⟨_, rfl⟩
 rw [hdd] at HD Zb
 rw [hct2] at HCN Zb
 obtain ⟨g, hgone⟩ : ∃ g, (d || ct2) = g := ⟨_, rfl⟩
 rw [hgone] at Zb
 have HQC := zh hct2
 have HGO := zh hgone
 clear Z6 hx hl h1 h2 ho hF hd hty hlc hq0 c1 c2 c3 hts htn htc htr ctb hdd hct2 hgone
 go_enter Tryz.func197, Tryz.ntmps197
 obtain ⟨n, hn2⟩ : ∃ n, ids.length = n := ⟨_, rfl⟩
 have HNN := zh hn2
 rw [hn2] at hn hcl HNE HD HS1 HQ0
 clear hn2
 cases d with
 | true =>
  have hg : g = true := by rw [<- HGO.out]; rfl
  subst hg
  go_wp2_with fail
  refine zH HS1 (HQ0.out _ (Z0.refl _ _).drew) (fun Z3 => ?_)
  have q0 : Quiet w w.drew := (Z0.refl _ _).drew
  generalize w.drew = d0 at q0 Z3 ⊢
  refine zT 0 ?_
  refine zT 1 ?_
  refine zT 2 ?_
  refine zT 3 ?_
  refine zT 4 ?_
  refine zR 5 ?_
  intro K hK
  go_simp
  go_at_call 195
  refine (HD.out _ (HQ0.out _ q0)).mono ?_
  rintro e d1 ⟨rfl, hqd⟩
  have q1 := q0.trans hqd
  clear hqd
  dsimp only
  refine hK.out _ _ ?_ (fun Z3 => ?_)
  ·exact HS1.out _ (HQ0.out _ q1)
  clear hK K
  (try simp only [Act.put, zPA, zPZ, zPS])
  refine zT 6 ?_
  refine zO 7 ?_
  refine zO 8 ?_
  refine zO 9 ?_
  refine zO 10 ?_
  refine zO 11 ?_
  refine zO 12 ?_
  refine zT 13 ?_
  refine zT 14 ?_
  refine zD ?_
  have HQ1 : Hid (Quiet w d1) := q1
  clear Z3 q0 q1 HCN HD HS1
  have HS2 : Hid (∀ W, Quiet d1 W -> (fun w' => w'.cell? ⟨oc, 0, none⟩ = some (.slice A n c) /\ w'.cell? ⟨tb, 0, none⟩ = some (.int .u64 (x.id : Int))) W) := fun W hq => by
   have hq2 := HQ1.out.trans hq
   exact ⟨by rw [Z1 (hq2.get HO.out.box (fun x => x)), <- HNN.out]; rfl, (HX.out.kept hq2 (fun x => x)).ent.c0⟩
  have HOWN : Hid (∀ W, Quiet d1 W -> W.ownsRow 0 34 1 (.slice A n c) n (ZB ids)) := fun W hq => by
   rw [<- HNN.out]
   exact Z4 HO.out.own (HQ1.out.trans hq) (fun _ _ x => x)
  go_wp2_with fail
  refine Z0V (S := (fun w' => w'.cell? ⟨oc, 0, none⟩ = some (.slice A n c) /\ w'.cell? ⟨tb, 0, none⟩ = some (.int .u64 (x.id : Int)))) (by kernel_rfl) (by kernel_rfl) (by simp) (HS2.out _ ((Z0.refl _ _).drew)) (fun Z3 => ?_)
  simp only [List.pop_toArray, List.dropLast, List.size_toArray, List.length_cons, List.length_nil, Nat.reduceAdd, Nat.reduceSub]
  have q0 : Quiet d1 d1.drew := (Z0.refl _ _).drew
  generalize d1.drew = d0 at q0 Z3 ⊢
  refine zT 0 ?_
  refine zT 1 ?_
  refine zT 2 ?_
  refine zT 3 ?_
  refine zT 4 ?_
  refine zT 5 ?_
  refine zR 6 ?_
  intro K hK
  go_simp
  refine hK.out _ _ ?_ (fun Z3 => ?_)
  ·exact HS2.out _ (q0.alloc _)
  clear hK K
  (try simp only [Act.put, zPA, zPZ, zPS])
  have qz : Quiet d1 (d0.alloc (.cells #[.int .u64 (x.id : Int)] 34)) := q0.alloc _
  have hrd := Rd.new d0 1 1 [.int .u64 (x.id : Int)] 34 (fun _ => True) rfl trivial
  obtain ⟨bu, hbu⟩ : ∃ bu, d0.heap.size = bu := ⟨_, rfl⟩
  rw [hbu] at hrd
  (try rw [hbu])
  clear hbu
  refine zR 7 ?_
  intro K hK
  refine Z1T Z3y rfl (.tmp 23) (.tmp 29) rfl rfl (HOWN.out _ qz) rfl hrd (Z4l [x.id]) (by unfold maxLen; omega) (by omega) ?_
  intro v3 d3 hg3
  obtain ⟨A3, c3, rfl, _, _, _⟩ := Z9 (show World.ownsRow d3 0 34 1 v3 (n + 1) (ZB ids ++ [.int .u64 (x.id : Int)]) from hg3.own)
  have hb3 := hg3.only.get ((HQ1.out.trans qz).get HO.out.box (fun x => x)) (fun e => (HNE.out _ e).1 rfl)
  rw [HNN.out] at hb3
  have hx3 := (HX.out.kept (HQ1.out.trans qz) (fun x => x)).kept hg3.only (fun e => (HNE.out _ e).2 rfl)
  refine hK.out _ _ ?_ (fun Z3 => ?_)
  ·exact ⟨by rw [Z1 hb3]; rfl, hx3.ent.c0⟩
  clear hK K
  (try simp only [Act.put, zPA, zPZ, zPS])
  refine zD ?_
  refine Z29 (o := ?_) ?_ ?_
  rotate_left 1
  (focus (simp only [zGA, zGZ, zGS] <;> rfl))
  intro K hK
  have k0 := Z1 hb3 0
  have kf := fun o => Z7 hb3 o
  simp only [zGA, zGS, zGZ] at k0
  have hm := Z7U (d2 := d3.setCell ⟨oc, 0, none⟩ (.slice A3 (ids.length + 1) c3)) HO.out (HQ1.out.trans q0) (by have h := hg3; rw [<- HNN.out] at h; exact h) rfl
  rw [HNN.out] at hm
  go_simp
  refine hK.out _ _ ?_
  clear hK K
  (try dsimp only [Act.put])
  have HX4 : Hid (Z1S (d3.setCell ⟨oc, 0, none⟩ (.slice A3 (n + 1) c3)) oc (.slice A3 (n + 1) c3) (ids ++ [x.id])) := hm.2.1
  have HO4 := zh hm.1
  have HL4 := zh hm.2.2
  clear Z3 q0 qz hg3 hm HS2 HOWN hrd hb3 hx3 k0 kf
  generalize (d3.setCell ⟨oc, 0, none⟩ (.slice A3 (n + 1) c3)) = w4 at *
  have Zc : Hid (Z8 (.returned (.bool true)) w4) := by
   rw [<- Zb.out]
   unfold Z3b
   rw [HNN.out]
   exact ⟨rfl, HO4.out, _, HX4.out, HL4.out⟩
  go_wp2
  exact Zc.out
 | false =>
  cases ct2 with
  | true =>
   have hg : g = true := by rw [<- HGO.out]; rfl
   subst hg
   go_wp2_with fail
   refine zH HS1 (HQ0.out _ (Z0.refl _ _).drew) (fun Z3 => ?_)
   have q0 : Quiet w w.drew := (Z0.refl _ _).drew
   generalize w.drew = d0 at q0 Z3 ⊢
   refine zT 0 ?_
   refine zT 1 ?_
   refine zT 2 ?_
   refine zT 3 ?_
   refine zT 4 ?_
   refine zR 5 ?_
   intro K hK
   go_simp
   go_at_call 195
   refine (HD.out _ (HQ0.out _ q0)).mono ?_
   rintro e d1 ⟨rfl, hqd⟩
   have q1 := q0.trans hqd
   clear hqd
   dsimp only
   refine hK.out _ _ ?_ (fun Z3 => ?_)
   ·exact HS1.out _ (HQ0.out _ q1)
   clear hK K
   (try simp only [Act.put, zPA, zPZ, zPS])
   refine zT 6 ?_
   refine zT 7 ?_
   refine zT 8 ?_
   refine zT 9 ?_
   refine zT 10 ?_
   refine zT 11 ?_
   refine zR 12 ?_
   intro K hK
   go_simp
   go_at_call 164
   refine (HCN.out _ q1).mono ?_
   rintro e d2 ⟨rfl, hqc⟩
   have q2 := q1.trans hqc
   clear hqc
   dsimp only
   refine hK.out _ _ ?_ (fun Z3 => ?_)
   ·exact HS1.out _ (HQ0.out _ q2)
   clear hK K
   (try simp only [Act.put, zPA, zPZ, zPS])
   refine zT 13 ?_
   refine zT 14 ?_
   refine zD ?_
   have HQ1 : Hid (Quiet w d2) := q2
   clear Z3 q0 q1 q2 HCN HD HS1
   generalize d2 = d1 at *
   have HS2 : Hid (∀ W, Quiet d1 W -> (fun w' => w'.cell? ⟨oc, 0, none⟩ = some (.slice A n c) /\ w'.cell? ⟨tb, 0, none⟩ = some (.int .u64 (x.id : Int))) W) := fun W hq => by
    have hq2 := HQ1.out.trans hq
    exact ⟨by rw [Z1 (hq2.get HO.out.box (fun x => x)), <- HNN.out]; rfl, (HX.out.kept hq2 (fun x => x)).ent.c0⟩
   have HOWN : Hid (∀ W, Quiet d1 W -> W.ownsRow 0 34 1 (.slice A n c) n (ZB ids)) := fun W hq => by
    rw [<- HNN.out]
    exact Z4 HO.out.own (HQ1.out.trans hq) (fun _ _ x => x)
   go_wp2_with fail
   refine Z0V (S := (fun w' => w'.cell? ⟨oc, 0, none⟩ = some (.slice A n c) /\ w'.cell? ⟨tb, 0, none⟩ = some (.int .u64 (x.id : Int)))) (by kernel_rfl) (by kernel_rfl) (by simp) (HS2.out _ ((Z0.refl _ _).drew)) (fun Z3 => ?_)
   simp only [List.pop_toArray, List.dropLast, List.size_toArray, List.length_cons, List.length_nil, Nat.reduceAdd, Nat.reduceSub]
   have q0 : Quiet d1 d1.drew := (Z0.refl _ _).drew
   generalize d1.drew = d0 at q0 Z3 ⊢
   refine zT 0 ?_
   refine zT 1 ?_
   refine zT 2 ?_
   refine zT 3 ?_
   refine zT 4 ?_
   refine zT 5 ?_
   refine zR 6 ?_
   intro K hK
   go_simp
   refine hK.out _ _ ?_ (fun Z3 => ?_)
   ·exact HS2.out _ (q0.alloc _)
   clear hK K
   (try simp only [Act.put, zPA, zPZ, zPS])
   have qz : Quiet d1 (d0.alloc (.cells #[.int .u64 (x.id : Int)] 34)) := q0.alloc _
   have hrd := Rd.new d0 1 1 [.int .u64 (x.id : Int)] 34 (fun _ => True) rfl trivial
   obtain ⟨bu, hbu⟩ : ∃ bu, d0.heap.size = bu := ⟨_, rfl⟩
   rw [hbu] at hrd
   (try rw [hbu])
   clear hbu
   refine zR 7 ?_
   intro K hK
   refine Z1T Z3y rfl (.tmp 23) (.tmp 29) rfl rfl (HOWN.out _ qz) rfl hrd (Z4l [x.id]) (by unfold maxLen; omega) (by omega) ?_
   intro v3 d3 hg3
   obtain ⟨A3, c3, rfl, _, _, _⟩ := Z9 (show World.ownsRow d3 0 34 1 v3 (n + 1) (ZB ids ++ [.int .u64 (x.id : Int)]) from hg3.own)
   have hb3 := hg3.only.get ((HQ1.out.trans qz).get HO.out.box (fun x => x)) (fun e => (HNE.out _ e).1 rfl)
   rw [HNN.out] at hb3
   have hx3 := (HX.out.kept (HQ1.out.trans qz) (fun x => x)).kept hg3.only (fun e => (HNE.out _ e).2 rfl)
   refine hK.out _ _ ?_ (fun Z3 => ?_)
   ·exact ⟨by rw [Z1 hb3]; rfl, hx3.ent.c0⟩
   clear hK K
   (try simp only [Act.put, zPA, zPZ, zPS])
   refine zD ?_
   refine Z29 (o := ?_) ?_ ?_
   rotate_left 1
   (focus (simp only [zGA, zGZ, zGS] <;> rfl))
   intro K hK
   have k0 := Z1 hb3 0
   have kf := fun o => Z7 hb3 o
   simp only [zGA, zGS, zGZ] at k0
   have hm := Z7U (d2 := d3.setCell ⟨oc, 0, none⟩ (.slice A3 (ids.length + 1) c3)) HO.out (HQ1.out.trans q0) (by have h := hg3; rw [<- HNN.out] at h; exact h) rfl
   rw [HNN.out] at hm
   go_simp
   refine hK.out _ _ ?_
   clear hK K
   (try dsimp only [Act.put])
   have HX4 : Hid (Z1S (d3.setCell ⟨oc, 0, none⟩ (.slice A3 (n + 1) c3)) oc (.slice A3 (n + 1) c3) (ids ++ [x.id])) := hm.2.1
   have HO4 := zh hm.1
   have HL4 := zh hm.2.2
   clear Z3 q0 qz hg3 hm HS2 HOWN hrd hb3 hx3 k0 kf
   generalize (d3.setCell ⟨oc, 0, none⟩ (.slice A3 (n + 1) c3)) = w4 at *
   have Zc : Hid (Z8 (.returned (.bool true)) w4) := by
    rw [<- Zb.out]
    unfold Z3b
    rw [HNN.out]
    exact ⟨rfl, HO4.out, _, HX4.out, HL4.out⟩
   go_wp2
   exact Zc.out
  | false =>
   have hg : g = false := by rw [<- HGO.out]; rfl
   subst hg
   go_wp2_with fail
   refine zH HS1 (HQ0.out _ (Z0.refl _ _).drew) (fun Z3 => ?_)
   have q0 : Quiet w w.drew := (Z0.refl _ _).drew
   generalize w.drew = d0 at q0 Z3 ⊢
   refine zT 0 ?_
   refine zT 1 ?_
   refine zT 2 ?_
   refine zT 3 ?_
   refine zT 4 ?_
   refine zR 5 ?_
   intro K hK
   go_simp
   go_at_call 195
   refine (HD.out _ (HQ0.out _ q0)).mono ?_
   rintro e d1 ⟨rfl, hqd⟩
   have q1 := q0.trans hqd
   clear hqd
   dsimp only
   refine hK.out _ _ ?_ (fun Z3 => ?_)
   ·exact HS1.out _ (HQ0.out _ q1)
   clear hK K
   (try simp only [Act.put, zPA, zPZ, zPS])
   refine zT 6 ?_
   refine zT 7 ?_
   refine zT 8 ?_
   refine zT 9 ?_
   refine zT 10 ?_
   refine zT 11 ?_
   refine zR 12 ?_
   intro K hK
   go_simp
   go_at_call 164
   refine (HCN.out _ q1).mono ?_
   rintro e d2 ⟨rfl, hqc⟩
   have q2 := q1.trans hqc
   clear hqc
   dsimp only
   refine hK.out _ _ ?_ (fun Z3 => ?_)
   ·exact HS1.out _ (HQ0.out _ q2)
   clear hK K
   (try simp only [Act.put, zPA, zPZ, zPS])
   refine zT 13 ?_
   refine zT 14 ?_
   refine zD ?_
   have Zc : Hid (Z8 (.returned (.bool false)) d2) := by
    rw [<- Zb.out]
    exact ⟨rfl, q2.mono (fun _ _ x => x.elim), _, HO.out.kept q2 (fun x => x) (fun _ _ x => x), fun k e => Or.inl e⟩
   clear Z3 q0 q1 q2 HD HS1 HCN
   go_wp2
   exact Zc.out
structure Z55 (w wr : World) (v : Value) (l : List Nat) : Prop where
 quiet : Quiet w wr
 new : ∀ k, v.ownBlock = some k -> w.heap.size <= k
 own : wr.ownsRow 0 206 1 v l.length (l.map ptrV)
theorem Z55.quietly {w wr w' : World} {v : Value} {l : List Nat} (h : Z55 w wr v l) (hq : Quiet wr w') : Z55 w w' v l := ⟨h.quiet.trans hq, h.new, Z4 h.own hq (fun _ _ x => x)⟩
theorem Z55.push {w w3 w4 : World} {v v' : Value} {l : List Nat} {p : Nat} (h : Z55 w w3 v l) (hg : ZW w3 w4 206 1 v v' (l.length + 1) (l.map ptrV ++ [ptrV p])) : Z55 w w4 v' (l ++ [p]) := by
 have hsz := h.quiet.size
 refine ⟨h.quiet.trans' hg.only (fun k hk e => by have := h.new k e; omega), fun k e => ?_, ?_⟩
 ·rcases hg.loc with y | y
  ·rw [y] at e; exact h.new k e
  ·rw [y] at e; injection e with e; omega
 ·rw [List.length_append, List.map_append]
  exact hg.own
def ebT (t : TE) (A : Option Addr) (c : Nat) : EB := ⟨t.id, t.name, t.xmin, t.xmax, [.slice A t.cols.length c], 150⟩
def ebI (x : IE) : EB := ⟨x.id, x.name, x.xmin, x.xmax, [.int .u64 (x.table : Int), .int .i64 (x.column : Int)], 161⟩
section
variable {w w' : World} {F : Nat -> Prop} {bb last : Nat} {T : List TE} {I : List IE} {vT vI : Value} {tps ips : List Nat}
theorem Z0W.eb {tb : Nat} {t : TE} (h : Z0W w F tb t) : ∃ A c, Z0P w tb (ebT t A c) /\ Rd w (fun k => F k /\ ∃ cur, w.heap[k]? = some (.cells cur 39 (0, 0))) 2 A t.cols.length (ZP t.cols) /\ t.cols.length <= c /\ c <= maxLen /\ ∀ g, (Value.slice A t.cols.length c).ownBlock = some g -> F g /\ ∃ cur, w.heap[g]? = some (.cells cur 39 (0, 0)) := by
 obtain ⟨A, c, h1, h2, h3, h4⟩ := h.ex
 obtain ⟨A', c', t1, t2⟩ := h.typ
 have e := h1.symm.trans t1
 injection e with e
 injection e with e
 have e2 := congrArg (fun a : Array Value => a[4]?) e
 simp at e2
 obtain ⟨eA, ec⟩ := e2
 subst eA ec
 refine ⟨A, c, h1, ⟨h2.len, fun h0 => ?_⟩, h3, h4, t2⟩
 obtain ⟨b, off, rfl, hb, hc⟩ := h2.cells h0
 exact ⟨b, off, rfl, t2 b rfl, hc⟩
theorem Z0W.of_eb {tb : Nat} {t : TE} {A : Option Addr} {c : Nat} (he : Z0P w tb (ebT t A c)) (hr : Rd w F 2 A t.cols.length (ZP t.cols)) (h3 : t.cols.length <= c) (h4 : c <= maxLen) (ht : ∀ g, (Value.slice A t.cols.length c).ownBlock = some g -> F g /\ ∃ cur, w.heap[g]? = some (.cells cur 39 (0, 0))) (ho : F tb) (hp : 0 < t.cols.length /\ t.cols.length <= 8) (hn : U64 t.id /\ U64 t.xmin /\ U64 t.xmax) : Z0W w F tb t :=
 ⟨⟨A, c, he, hr, h3, h4⟩, ho, hp, hn, A, c, he, ht⟩
theorem Z0c.tne (h : Z0c w F bb T vT tps vI ips last) (hnd : (T.map (fun t => t.id)).Nodup) {i j p : Nat} {s t : TE} (hi : T[i]? = some s) (hj : T[j]? = some t) (hpi : tps[i]? = some p) (hpj : tps[j]? = some p) : i = j := by
 obtain ⟨p1, a1, b1⟩ := h.tbl i s hi
 obtain ⟨p2, a2, b2⟩ := h.tbl j t hj
 rw [hpi] at a1
 injection a1 with a1
 rw [hpj] at a2
 injection a2 with a2
 subst a1 a2
 obtain ⟨A1, c1, e1, _⟩ := b1.eb
 obtain ⟨A2, c2, e2, _⟩ := b2.eb
 have e := e1.id_eq e2
 have h1 : (T.map (fun t => t.id))[i]? = some s.id := by rw [List.getElem?_map, hi]; rfl
 have h2 : (T.map (fun t => t.id))[j]? = some t.id := by rw [List.getElem?_map, hj]; rfl
 exact (List.getElem?_inj (zi.1 h1).1 hnd).1 (by rw [h1, h2]; exact congrArg some e)
theorem Zgm (hx : ∀ (i : Nat) e, I[i]? = some e -> ∃ p, ips[i]? = some p /\ Z1y w F p e) (hnd : (I.map (fun t => t.id)).Nodup) {i j p : Nat} {s t : IE} (hi : I[i]? = some s) (hj : I[j]? = some t) (hpi : ips[i]? = some p) (hpj : ips[j]? = some p) : i = j := by
 obtain ⟨p1, a1, b1⟩ := hx i s hi
 obtain ⟨p2, a2, b2⟩ := hx j t hj
 rw [hpi] at a1
 injection a1 with a1
 rw [hpj] at a2
 injection a2 with a2
 subst a1 a2
 have e := Z0P.id_eq (e := ebI s) (e' := ebI t) b1.box b2.box
 have h1 : (I.map (fun t => t.id))[i]? = some s.id := by rw [List.getElem?_map, hi]; rfl
 have h2 : (I.map (fun t => t.id))[j]? = some t.id := by rw [List.getElem?_map, hj]; rfl
 exact (List.getElem?_inj (zi.1 h1).1 hnd).1 (by rw [h1, h2]; exact congrArg some e)
def Z0z (L : List Nat) (y : Zo) (tid : Nat) (I : List IE) (ips : List Nat) (k : Nat) : List (IE × Nat) := ((I.zip ips).take k).filter (fun z => Z3k L y tid z.1)
theorem Zgn {L : List Nat} {y : Zo} {tid k p : Nat} {x : IE} (hx : I[k]? = some x) (hp : ips[k]? = some p) : Z0z L y tid I ips (k + 1) = Z0z L y tid I ips k ++ (if Z3k L y tid x then [(x, p)] else []) := by
 unfold Z0z
 have hz : (I.zip ips)[k]? = some (x, p) := by rw [List.getElem?_zip_eq_some]; exact ⟨hx, hp⟩
 rw [List.take_add_one, hz, List.filter_append]
 congr 1
 cases h : Z3k L y tid x <;> simp [h]
theorem Z30 {L : List Nat} {y : Zo} {tid k p : Nat} {x : IE} (h : (x, p) ∈ Z0z L y tid I ips k) : Z3k L y tid x = true /\ ∃ i : Nat, I[i]? = some x /\ ips[i]? = some p := by
 obtain ⟨h1, h2⟩ := List.mem_filter.1 h
 obtain ⟨i, hi⟩ := List.mem_iff_getElem?.1 (List.mem_of_mem_take h1)
 rw [List.getElem?_zip_eq_some] at hi
 exact ⟨h2, i, hi.1, hi.2⟩
theorem ZhN {L : List Nat} {y : Zo} {tid i p : Nat} {x : IE} (hl : ips.length = I.length) (hx : I[i]? = some x) (hp : ips[i]? = some p) (hs : Z3k L y tid x = true) : (x, p) ∈ Z0z L y tid I ips I.length := by
 unfold Z0z
 refine List.mem_filter.2 ⟨?_, hs⟩
 rw [List.take_of_length_le (by rw [List.length_zip]; omega)]
 exact List.mem_of_getElem? (i := i) (by rw [List.getElem?_zip_eq_some]; exact ⟨hx, hp⟩)
theorem ZhO {L : List Nat} {y : Zo} {tid : Nat} (hl : ips.length = I.length) : (Z0z L y tid I ips I.length).map (fun z => z.1) = I.filter (Z3k L y tid) := by
 unfold Z0z
 rw [List.take_of_length_le (by rw [List.length_zip]; omega)]
 have : I = (I.zip ips).map (fun z => z.1) := by rw [List.map_fst_zip (by omega)]
 conv => rhs; rw [this]
 rw [List.filter_map]
 rfl
theorem Zgo (hx : ∀ (i : Nat) e, I[i]? = some e -> ∃ p, ips[i]? = some p /\ Z1y w F p e) (hl : ips.length = I.length) (hnd : (I.map (fun t => t.id)).Nodup) : ips.Nodup := by
 rw [List.nodup_iff_pairwise_ne, List.pairwise_iff_getElem]
 intro i j hi hj hij e
 have h1 : ips[i]? = some ips[i] := zg hi
 have h2 : ips[j]? = some ips[j] := zg hj
 have h3 : I[i]? = some (I[i]'(by omega)) := zg (by omega)
 have h4 : I[j]? = some (I[j]'(by omega)) := zg (by omega)
 have := Zgm hx hnd h3 h4 h1 (by rw [h2, e])
 omega
theorem ZeM {L : List Nat} {y : Zo} {tid k : Nat} (hl : ips.length = I.length) (hnd : ips.Nodup) : ((Z0z L y tid I ips k).map (fun z => z.2)).Nodup := by
 have h1 : (I.zip ips).map (fun z => z.2) = ips := List.map_snd_zip (by omega)
 have h2 : ((Z0z L y tid I ips k).map (fun z => z.2)).Sublist ((I.zip ips).map (fun z => z.2)) := by
  unfold Z0z
  exact (List.filter_sublist.trans (List.take_sublist _ _)).map _
 rw [h1] at h2
 exact hnd.sublist h2
end
def Z50 (w : World) (F : Nat -> Prop) (bb last : Nat) (T : List TE) (I : List IE) (L : List Nat) (y : Zo) (name : ByteArray) (e : Ending) (w' : World) : Prop :=
 match Z0w L y name T with
 | none => e = .returned (.tuple #[.int .u64 0, .int .i64 6]) /\ Quiet w w'
 | some i => ∃ t, T[i]? = some t /\ if Z40 L y t I then e = .returned (.tuple #[.int .u64 (t.id : Int), .int .i64 0]) /\ Z0 F w w' /\ ZG w' F bb (T.set i { t with xmax := y.own }) (I.map (Z4Z L y t.id)) last
   else e = .returned (.tuple #[.int .u64 0, .int .i64 11]) /\ Quiet w w'
theorem Zgp {w wq w' : World} {F : Nat -> Prop} {bb last i tp : Nat} {T : List TE} {I : List IE} {vT vI : Value} {tps ips : List Nat} {L : List Nat} {y : Zo} {t : TE} (h : Z0c w F bb T vT tps vI ips last) (hil : ips.length = I.length) (hx : ∀ (i : Nat) e, I[i]? = some e -> ∃ p, ips[i]? = some p /\ Z1y w F p e)
  (hTn : (T.map (fun t => t.id)).Nodup) (hIn : (I.map (fun t => t.id)).Nodup) (hi : T[i]? = some t) (hp : tps[i]? = some tp) (hq : Quiet w wq) (hy : U64 y.own) (A : Option Addr) (c : Nat) (hA : Z0P w tp (ebT t A c))
  (ho : Z0 (fun k => k ∈ tp :: (Z0z L y t.id I ips I.length).map (fun z => z.2)) wq w') (he : ∀ (j p : Nat) (x : EB), (tp :: (Z0z L y t.id I ips I.length).map (fun z => z.2))[j]? = some p -> (ebT t A c :: (Z0z L y t.id I ips I.length).map (fun z => ebI z.1))[j]? = some x -> Z0P w' p { x with xmax := y.own }) :
  Z0 F w w' /\ ZG w' F bb (T.set i { t with xmax := y.own }) (I.map (Z4Z L y t.id)) last := by
 have hF : ∀ k, k ∈ tp :: (Z0z L y t.id I ips I.length).map (fun z => z.2) -> F k /\ ∃ cs ty, w.heap[k]? = some (.cells cs ty (0, 0)) /\ (ty = 150 ∨ ty = 161) := by
  intro k hk
  rcases List.mem_cons.1 hk with e | e
  ·rw [e]
   obtain ⟨p, a, b⟩ := h.tbl i t hi
   rw [hp] at a
   injection a with a
   rw [<- a] at b
   exact ⟨b.own, _, _, hA, Or.inl rfl⟩
  ·obtain ⟨z, hz, rfl⟩ := List.mem_map.1 e
   obtain ⟨_, j, hj1, hj2⟩ := Z30 hz
   obtain ⟨p, a, b⟩ := hx j z.1 hj1
   rw [hj2] at a
   injection a with a
   rw [<- a] at b
   exact ⟨b.own, _, _, b.box, Or.inr rfl⟩
 have hty : ∀ {k : Nat} {cs : Array Value} {ty : TypeId}, w.heap[k]? = some (.cells cs ty (0, 0)) -> ty ≠ 150 -> ty ≠ 161 -> k ∉ tp :: (Z0z L y t.id I ips I.length).map (fun z => z.2) := by
  intro k cs ty hk h1 h2 hm
  obtain ⟨_, cs', ty', hh, e⟩ := hF k hm
  have e2 := hk.symm.trans hh
  injection e2 with e2
  injection e2 with _ e2 _
  rcases e with e | e
  ·exact h1 (e2.trans e)
  ·exact h2 (e2.trans e)
 have hw : ∀ {k : Nat} {x : Obj}, w.heap[k]? = some x -> k ∉ tp :: (Z0z L y t.id I ips I.length).map (fun z => z.2) -> w'.heap[k]? = some x := fun hk hn => ho.get (hq.get hk (fun x => x)) hn
 have hon : Z0 F w w' := (hq.mono (fun _ _ x => x.elim)).trans (ho.mono (fun k _ e => (hF k e).1))
 refine ⟨hon, vT, tps, vI, ips, ⟨hw h.box (hty h.box (by decide) (by decide)), ?_, ?_, fun j e hj => ?_, h.foot, h.num⟩, by rw [List.length_map]; exact hil, fun j e hj => ?_⟩
 ·rw [List.length_set]
  refine Z4 (Z4 h.rowT hq (fun _ _ x => x)) ho (fun k e => ?_)
  obtain ⟨cur, hh⟩ := Zj h.rowT e
  exact hty hh (by decide) (by decide)
 ·refine Z4 (Z4 h.rowI hq (fun _ _ x => x)) ho (fun k e => ?_)
  obtain ⟨cur, hh⟩ := Zj h.rowI e
  exact hty hh (by decide) (by decide)
 ·have keepC : ∀ {tt : TE} {A : Option Addr}, Rd w (fun k => F k /\ ∃ cur, w.heap[k]? = some (.cells cur 39 (0, 0))) 2 A tt.cols.length (ZP tt.cols) -> Rd w' F 2 A tt.cols.length (ZP tt.cols) := fun hr => by
   refine ((hr.kept hq (fun _ _ x => x)).kept ho (fun k e => ?_)).mono (fun k e => e.1)
   obtain ⟨_, cur, hh⟩ := e
   exact hty hh (by decide) (by decide)
  have keepT : ∀ {v : Value}, (∀ g, v.ownBlock = some g -> F g /\ ∃ cur, w.heap[g]? = some (.cells cur 39 (0, 0))) -> ∀ g, v.ownBlock = some g -> F g /\ ∃ cur, w'.heap[g]? = some (.cells cur 39 (0, 0)) := fun ht g e => by
   obtain ⟨a, cur, hh⟩ := ht g e
   exact ⟨a, cur, hw hh (hty hh (by decide) (by decide))⟩
  rw [List.getElem?_set] at hj
  by_cases eij : i = j
  ·subst eij
   rw [if_pos rfl, if_pos (zi.1 hi).1] at hj
   injection hj with hj
   subst hj
   obtain ⟨p, a, b⟩ := h.tbl i t hi
   obtain ⟨A2, c2, b1, b2, b3, b4, b5⟩ := b.eb
   rw [hp] at a
   injection a with a
   subst a
   have e1 := (show Z0P w tp (ebT t A c) from hA).symm.trans b1
   injection e1 with e1
   injection e1 with e1
   have e2 := congrArg (fun a : Array Value => a[4]?) e1
   simp [ebT] at e2
   obtain ⟨eA, ec⟩ := e2
   subst eA ec
   exact ⟨tp, hp, Z0W.of_eb (t := { t with xmax := y.own }) (he 0 tp (ebT t A c) rfl rfl) (keepC (tt := t) b2) b3 b4 (keepT b5) b.own b.pos ⟨b.num.1, b.num.2.1, hy⟩⟩
  ·rw [if_neg eij] at hj
   obtain ⟨p, a, b⟩ := h.tbl j e hj
   obtain ⟨A2, c2, b1, b2, b3, b4, b5⟩ := b.eb
   have hnp : p ∉ tp :: (Z0z L y t.id I ips I.length).map (fun z => z.2) := fun hm => by
    rcases List.mem_cons.1 hm with e | e
    ·rw [e] at a
     exact eij (h.tne hTn hi hj hp a)
    ·obtain ⟨z, hz, rfl⟩ := List.mem_map.1 e
     obtain ⟨_, m, hm1, hm2⟩ := Z30 hz
     obtain ⟨p2, a2, b2'⟩ := hx m z.1 hm1
     rw [hm2] at a2
     injection a2 with a2
     rw [<- a2] at b2'
     exact Za b1 b2'.box (by show 150 ≠ _; decide) rfl
   exact ⟨p, a, Z0W.of_eb (hw b1 hnp) (keepC b2) b3 b4 (keepT b5) b.own b.pos b.num⟩
 ·rw [List.getElem?_map] at hj
  obtain ⟨x, hxj, rfl⟩ := Option.map_eq_some_iff.1 hj
  obtain ⟨p, a, b⟩ := hx j x hxj
  refine ⟨p, a, ?_⟩
  unfold Z4Z
  by_cases hs : Z3k L y t.id x = true
  ·rw [if_pos hs]
   have hm := ZhN hil hxj a hs
   obtain ⟨m, hm⟩ := List.mem_iff_getElem?.1 hm
   have := he (m + 1) p (ebI x) (by rw [List.getElem?_cons_succ, List.getElem?_map, hm]; rfl) (by rw [List.getElem?_cons_succ, List.getElem?_map, hm]; rfl)
   exact ⟨this, b.own, b.num.1, b.num.2.1, hy, b.num.2.2.2⟩
  ·rw [if_neg hs]
   have hnp : p ∉ tp :: (Z0z L y t.id I ips I.length).map (fun z => z.2) := fun hm => by
    rcases List.mem_cons.1 hm with e | e
    ·rw [e] at b
     exact Za hA b.box (by show 150 ≠ _; decide) rfl
    ·obtain ⟨z, hz, hz2⟩ := List.mem_map.1 e
     obtain ⟨hs2, m, hm1, hm2⟩ := Z30 hz
     rw [hz2] at hm2
     have := Zgm hx hIn hxj hm1 a hm2
     subst this
     rw [hxj] at hm1
     injection hm1 with hm1
     rw [hm1] at hs
     exact hs hs2
   exact ⟨hw b.box hnp, b.own, b.num⟩
structure Z6M (w0 W : World) (oc g : Nat) (ids : List Nat) : Prop where
 only : Z0 (fun x => x = oc ∨ x = g) w0 W
 out : ∃ v, Z1S W oc v ids /\ ∀ j, v.ownBlock = some j -> w0.heap.size <= j
theorem Z6M.row {w0 W W' : World} {oc g : Nat} {ids : List Nat} (h : Z6M w0 W oc g ids) (ho : Z0 (· = g) W W') (h1 : oc ≠ g) (h2 : g < w0.heap.size) : Z6M w0 W' oc g ids := by
 obtain ⟨v, h3, h4⟩ := h.out
 exact ⟨h.only.trans (ho.mono (fun _ _ e => Or.inr e)), v, h3.kept ho h1 (fun k e e2 => by have := h4 k e; have e3 : k = g := e2; omega), h4⟩
theorem Z6M.step {w0 W w' : World} {oc g id : Nat} {ids : List Nat} {v : Value} {d : Bool} {e : Ending} (h : Z6M w0 W oc g ids) (hv : ∀ j, v.ownBlock = some j -> w0.heap.size <= j) (hp : Z3b W oc v ids d id e w') (h1 : oc ≠ g) (h2 : g < w0.heap.size) :
  e = .returned (.bool d) /\ Z6M w0 w' oc g (if d then ids ++ [id] else ids) /\ ∀ o, W.heap[g]? = some o -> w'.heap[g]? = some o := by
 obtain ⟨he, ho, v', h3, h4⟩ := hp
 have hz := h.only.size
 refine ⟨he, ⟨h.only.trans' ho (fun k hk e => ?_), v', h3, fun j e => ?_⟩, fun o hg => ho.get hg (fun e => ?_)⟩
 ·rcases e with e | e
  ·exact Or.inl e
  ·have := hv k e; omega
 ·rcases h4 j e with y | y
  ·exact hv j y
  ·omega
 ·rcases e with e | e
  ·exact h1 e.symm
  ·have := hv _ e; omega
theorem ZbX {L : List Nat} {hz k : Nat} {T : List TE} {t : TE} (h : T[k]? = some t) : Zn L hz (T.take (k + 1)) = if Z14 L hz t then Zn L hz (T.take k) ++ [t.id] else Zn L hz (T.take k) := by
 unfold Zn
 rw [List.take_add_one, h, List.filter_append, List.map_append]
 cases hd : Z14 L hz t <;> simp [hd]
theorem ZbY {L : List Nat} {hz k : Nat} {ts : List Nat} {I : List IE} {x : IE} (h : I[k]? = some x) : Z0x L hz ts (I.take (k + 1)) = if Z1l L hz ts x then Z0x L hz ts (I.take k) ++ [x.id] else Z0x L hz ts (I.take k) := by
 unfold Z0x
 rw [List.take_add_one, h, List.filter_append, List.map_append]
 cases hd : Z1l L hz ts x <;> simp [hd]
def Zj5 (w0 : World) (v : Value) (n c oc : Nat) (L : List Nat) (hz : Nat) (T : List TE) (tps : List Nat) (A : Option Addr) (e : Ending) (w' : World) : Prop :=
 ∃ v2 : Value, e = .returned v2 /\ v2.ownBlock = v.ownBlock /\ Z0 (fun x => x = oc ∨ v.ownBlock = some x) w0 w' /\ (∃ vo, Z1S w' oc vo (Zn L hz T) /\ ∀ j, vo.ownBlock = some j -> w0.heap.size <= j) /\ w'.ownsRow 0 144 1 v2 (Z15 (Z14 L hz) tps T).length ((Z15 (Z14 L hz) tps T).map (fun z => ptrV z.1))
theorem ZaL {w0 : World} {F Fl : Nat -> Prop} {lb lc zc oc hz n : Nat} {L : List Nat} {T : List TE} {tps : List Nat} {v : Value} (hrow : w0.ownsRow 0 144 1 v n (tps.map ptrV)) (hT : T.length = n) (htp : tps.length = n) (hn : n <= 90000) (htb : ∀ (i : Nat) e, T[i]? = some e -> ∃ p, tps[i]? = some p /\ Z0W w0 F p e) (hl : Zy w0 Fl lb L)
  (c4 : w0.heap[lc]? = some (.cells #[ptrV lb] 69 (0, 0))) (c5 : w0.heap[zc]? = some (.cells #[.int .u64 (hz : Int)] 34 (0, 0))) (c8 : w0.heap[oc]? = some (.cells #[.slice none 0 0] 82 (0, 0))) (hFl : ¬ Fl oc /\ (∀ k, v.ownBlock = some k -> ¬ Fl k) /\ ∀ k, Fl k -> k < w0.heap.size) (hzc : zc < w0.heap.size) :
  ∃ A c, v = .slice A n c /\ Calls Tryz.prog 193 #[.slice A n c, .func (.func 194) #[] #[ptrV lc, ptrV zc, ptrV oc]] w0 (Zj5 w0 v n c oc L hz T tps A) := by
 rcases hrow.2 with ⟨rfl, hn0⟩ | ⟨g, c, cur, rfl, _, hg, hnc, hcm, hsz, htk⟩
 ·refine ⟨none, 0, by rw [hn0], ?_⟩
  rw [hn0]
  refine deleteT_nil.mono ?_
  rintro e w' ⟨rfl, rfl⟩
  have hT0 : T = [] := List.eq_nil_of_length_eq_zero (by omega)
  subst hT0
  refine ⟨_, rfl, rfl, Z0.refl _ _, ⟨.slice none 0 0, ⟨c8, World.ownsRow_nil _ _ _ _⟩, fun j e => by cases e⟩, ?_⟩
  have : Z15 (Z14 L hz) tps [] = [] := by unfold Z15; simp
  rw [this]
  exact World.ownsRow_nil _ _ _ _
 ·refine ⟨some ⟨g, 0, none⟩, c, rfl, ?_⟩
  have hgo : oc ≠ g := fun e => Za c8 hg (by decide) e
  have hgl := Z2 hg
  have hcur : ∀ (i p : Nat), tps[i]? = some p -> cur[i]? = some (ptrV p) := fun i p hp => by
   have h1 : (tps.map ptrV)[i]? = some (ptrV p) := by rw [List.getElem?_map, hp]; rfl
   rw [<- htk, List.getElem?_take] at h1
   split at h1
   ·rw [<- Array.getElem?_toList]; exact h1
   ·cases h1
  have key := ZcO (w := w0) (g := g) (c := c) (n := n) (lc := lc) (zc := zc) (oc := oc) (ps := tps) (ds := T.map (Z14 L hz)) (cur := cur) (R := fun k W => Z6M w0 W oc g (Zn L hz (T.take k))) htp (by rw [List.length_map]; exact hT) hnc hcm (by omega) hg (by rw [hsz, Nat.mul_one]) hcur (fun k p d W hR hp hd => ?_) (fun k W W' hR ho => hR.row ho hgo hgl) ⟨Z0.refl _ _, .slice none 0 0, ⟨c8, World.ownsRow_nil _ _ _ _⟩, fun j e => by cases e⟩
  ·refine key.mono ?_
   rintro e w' ⟨rfl, hR, cur', hg', hs', hc'⟩
   rw [List.take_of_length_le (by omega)] at hR
   have e1 := Z8Q (Z14 L hz) htp hT
   rw [e1] at hc'
   have hkl : (Z15 (Z14 L hz) tps T).length <= n := by
    unfold Z15
    refine Nat.le_trans (List.length_filter_le _ _) ?_
    rw [List.length_zip]
    omega
   refine ⟨_, rfl, rfl, hR.only.mono (fun k _ e => by rcases e with e | e; exact Or.inl e; exact Or.inr (by rw [e]; rfl)), hR.out, ?_⟩
   rw [e1, List.length_map]
   refine ⟨by simp, Or.inr ⟨g, c, cur', rfl, Nat.zero_le _, hg', by omega, hcm, by rw [hs', Nat.mul_one], ?_⟩⟩
   apply List.ext_getElem?
   intro i
   rw [Nat.mul_one, List.getElem?_take]
   split
   ·rename_i hi
    obtain ⟨z, hz⟩ : ∃ z, (Z15 (Z14 L hz) tps T)[i]? = some z := ⟨_, zg hi⟩
    rw [Array.getElem?_toList, hc' i z.1 (by rw [List.getElem?_map, hz]; rfl), List.getElem?_map, hz]
    rfl
   ·rename_i hi
    rw [List.getElem?_eq_none (by rw [List.length_map]; omega)]
  ·obtain ⟨t, ht, rfl⟩ : ∃ t, T[k]? = some t /\ Z14 L hz t = d := by
    rw [List.getElem?_map] at hd
    exact Option.map_eq_some_iff.1 hd
   obtain ⟨p', e1, htbl⟩ := htb k t ht
   rw [hp] at e1
   injection e1 with e1
   subst e1
   obtain ⟨A2, c2, heb, _⟩ := htbl.eb
   obtain ⟨vo, hvo, hvn⟩ := hR.out
   have hz0 := hR.only.size
   have hlz := hvo.own.lt
   have hne : ∀ {k : Nat} {cs : Array Value} {ty : TypeId}, w0.heap[k]? = some (.cells cs ty (0, 0)) -> ty ≠ 82 -> ty ≠ 144 -> ¬ (k = oc ∨ k = g) := fun hk h1 h2 e => by
    rcases e with e | e
    ·exact Za hk c8 h1 e
    ·exact Za hk hg h2 e
   have hcall := ZeK (w := W) (F := Fl) (lb := lb) (lc := lc) (zc := zc) (oc := oc) (hz := hz) (heb.kept hR.only (hne heb (by show 150 ≠ _; decide) (by show 150 ≠ _; decide))) (hl.kept hR.only (fun k a e => by
       rcases e with e | e
       · rw [e] at a; exact hFl.1 a
       · rw [e] at a; exact hFl.2.1 g rfl a)) htbl.num.2.1 htbl.num.2.2 (by rw [Z1 (hR.only.get c4 (hne c4 (by decide) (by decide)))]; rfl) (by rw [Z1 (hR.only.get c5 (hne c5 (by decide) (by decide)))]; rfl) hvo (by
       have h1 : (Zn L hz (T.take k)).length <= (T.take k).length := by unfold Zn; rw [List.length_map]; exact List.length_filter_le _ _
       rw [List.length_take] at h1
       omega) ⟨hFl.1, fun j e a => by have := hvn j e; have := hFl.2.2 j a; omega⟩ ⟨Za c4 c8 (by decide), Za c5 c8 (by decide)⟩ ⟨by show 150 ≠ _; decide, by show 150 ≠ _; decide⟩ (fun j e => by have := hvn j e; have := Z2 c4; constructor <;> omega)
   refine hcall.mono ?_
   intro e w' hp2
   have := hR.step hvn hp2 hgo hgl
   rw [ZbX ht]
   exact this
def Zj6 (w0 : World) (v : Value) (n c oc : Nat) (L : List Nat) (hz : Nat) (ts : List Nat) (T : List IE) (tps : List Nat) (A : Option Addr) (e : Ending) (w' : World) : Prop :=
 ∃ v2 : Value, e = .returned v2 /\ v2.ownBlock = v.ownBlock /\ Z0 (fun x => x = oc ∨ v.ownBlock = some x) w0 w' /\ (∃ vo, Z1S w' oc vo (Z0x L hz ts T) /\ ∀ j, vo.ownBlock = some j -> w0.heap.size <= j) /\ w'.ownsRow 0 159 1 v2 (Z15 (Z1l L hz ts) tps T).length ((Z15 (Z1l L hz ts) tps T).map (fun z => ptrV z.1))
theorem Z9k {w0 : World} {F Fl : Nat -> Prop} {lb lc zc oc hz n : Nat} {L : List Nat} {T : List IE} {ts : List Nat} {tc nt ct : Nat} {At : Option Addr} {tps : List Nat} {v : Value} (hrow : w0.ownsRow 0 159 1 v n (tps.map ptrV)) (hT : T.length = n) (htp : tps.length = n) (hn : n <= 90000) (htb : ∀ (i : Nat) e, T[i]? = some e -> ∃ p, tps[i]? = some p /\ Z1y w0 F p e) (hl : Zy w0 Fl lb L)
  (c4 : w0.heap[lc]? = some (.cells #[ptrV lb] 69 (0, 0))) (c5 : w0.heap[zc]? = some (.cells #[.int .u64 (hz : Int)] 34 (0, 0))) (ctc : w0.heap[tc]? = some (.cells #[.slice At nt ct] 82 (0, 0))) (hts : w0.ownsRow 0 34 1 (.slice At nt ct) nt (ZB ts)) (htn : ts.length = nt) (hto : tc ≠ oc) (c8 : w0.heap[oc]? = some (.cells #[.slice none 0 0] 82 (0, 0))) (hFl : ¬ Fl oc /\ (∀ k, v.ownBlock = some k -> ¬ Fl k) /\ ∀ k, Fl k -> k < w0.heap.size) (hzc : zc < w0.heap.size) :
  ∃ A c, v = .slice A n c /\ Calls Tryz.prog 196 #[.slice A n c, .func (.func 197) #[] #[ptrV lc, ptrV zc, ptrV tc, ptrV oc]] w0 (Zj6 w0 v n c oc L hz ts T tps A) := by
 rcases hrow.2 with ⟨rfl, hn0⟩ | ⟨g, c, cur, rfl, _, hg, hnc, hcm, hsz, htk⟩
 ·refine ⟨none, 0, by rw [hn0], ?_⟩
  rw [hn0]
  refine deleteX_nil.mono ?_
  rintro e w' ⟨rfl, rfl⟩
  have hT0 : T = [] := List.eq_nil_of_length_eq_zero (by omega)
  subst hT0
  refine ⟨_, rfl, rfl, Z0.refl _ _, ⟨.slice none 0 0, ⟨c8, World.ownsRow_nil _ _ _ _⟩, fun j e => by cases e⟩, ?_⟩
  have : Z15 (Z1l L hz ts) tps [] = [] := by unfold Z15; simp
  rw [this]
  exact World.ownsRow_nil _ _ _ _
 ·refine ⟨some ⟨g, 0, none⟩, c, rfl, ?_⟩
  have hgo : oc ≠ g := fun e => Za c8 hg (by decide) e
  have hgl := Z2 hg
  have hcur : ∀ (i p : Nat), tps[i]? = some p -> cur[i]? = some (ptrV p) := fun i p hp => by
   have h1 : (tps.map ptrV)[i]? = some (ptrV p) := by rw [List.getElem?_map, hp]; rfl
   rw [<- htk, List.getElem?_take] at h1
   split at h1
   ·rw [<- Array.getElem?_toList]; exact h1
   ·cases h1
  have key := ZcP (w := w0) (g := g) (c := c) (n := n) (lc := lc) (zc := zc) (oc := tc) (oc2 := oc) (ps := tps) (ds := T.map (Z1l L hz ts)) (cur := cur) (R := fun k W => Z6M w0 W oc g (Z0x L hz ts (T.take k))) htp (by rw [List.length_map]; exact hT) hnc hcm (by omega) hg (by rw [hsz, Nat.mul_one]) hcur (fun k p d W hR hp hd => ?_) (fun k W W' hR ho => hR.row ho hgo hgl) ⟨Z0.refl _ _, .slice none 0 0, ⟨c8, World.ownsRow_nil _ _ _ _⟩, fun j e => by cases e⟩
  ·refine key.mono ?_
   rintro e w' ⟨rfl, hR, cur', hg', hs', hc'⟩
   rw [List.take_of_length_le (by omega)] at hR
   have e1 := Z8Q (Z1l L hz ts) htp hT
   rw [e1] at hc'
   have hkl : (Z15 (Z1l L hz ts) tps T).length <= n := by
    unfold Z15
    refine Nat.le_trans (List.length_filter_le _ _) ?_
    rw [List.length_zip]
    omega
   refine ⟨_, rfl, rfl, hR.only.mono (fun k _ e => by rcases e with e | e; exact Or.inl e; exact Or.inr (by rw [e]; rfl)), hR.out, ?_⟩
   rw [e1, List.length_map]
   refine ⟨by simp, Or.inr ⟨g, c, cur', rfl, Nat.zero_le _, hg', by omega, hcm, by rw [hs', Nat.mul_one], ?_⟩⟩
   apply List.ext_getElem?
   intro i
   rw [Nat.mul_one, List.getElem?_take]
   split
   ·rename_i hi
    obtain ⟨z, hz⟩ : ∃ z, (Z15 (Z1l L hz ts) tps T)[i]? = some z := ⟨_, zg hi⟩
    rw [Array.getElem?_toList, hc' i z.1 (by rw [List.getElem?_map, hz]; rfl), List.getElem?_map, hz]
    rfl
   ·rename_i hi
    rw [List.getElem?_eq_none (by rw [List.length_map]; omega)]
  ·obtain ⟨t, ht, rfl⟩ : ∃ t, T[k]? = some t /\ Z1l L hz ts t = d := by
    rw [List.getElem?_map] at hd
    exact Option.map_eq_some_iff.1 hd
   obtain ⟨p', e1, htbl⟩ := htb k t ht
   rw [hp] at e1
   injection e1 with e1
   subst e1
   have heb : Z0P w0 p (ebI t) := htbl.box
   obtain ⟨vo, hvo, hvn⟩ := hR.out
   have hz0 := hR.only.size
   have hlz := hvo.own.lt
   have hne : ∀ {k : Nat} {cs : Array Value} {ty : TypeId}, w0.heap[k]? = some (.cells cs ty (0, 0)) -> ty ≠ 82 -> ty ≠ 159 -> ¬ (k = oc ∨ k = g) := fun hk h1 h2 e => by
    rcases e with e | e
    ·exact Za hk c8 h1 e
    ·exact Za hk hg h2 e
   have htcW : W.cell? ⟨tc, 0, none⟩ = some (.slice At nt ct) := by
    rw [Z1 (hR.only.get ctc (fun e => e.elim hto (fun e => Za ctc hg (by decide) e)))]
    rfl
   have htsW : W.ownsRow 0 34 1 (.slice At nt ct) nt (ZB ts) := Z4 hts hR.only (fun j e e2 => by
     obtain ⟨cc, hh⟩ := Zj hts e
     rcases e2 with e2 | e2
     · exact Za hh c8 (by decide) e2
     · exact Za hh hg (by decide) e2)
   have hcall := ZeL (w := W) (F := Fl) (lb := lb) (lc := lc) (zc := zc) (tc := tc) (oc := oc) (hz := hz) (tid := t.table) (nt := nt) (ct := ct) (At := At) (ts := ts) (heb.kept hR.only (hne heb (by show 161 ≠ _; decide) (by show 161 ≠ _; decide))) (hl.kept hR.only (fun k a e => by
       rcases e with e | e
       · rw [e] at a; exact hFl.1 a
       · rw [e] at a; exact hFl.2.1 g rfl a)) htbl.num.2.1 htbl.num.2.2.1 (by rw [Z1 (hR.only.get c4 (hne c4 (by decide) (by decide)))]; rfl) (by rw [Z1 (hR.only.get c5 (hne c5 (by decide) (by decide)))]; rfl) hvo (by
       have h1 : (Z0x L hz ts (T.take k)).length <= (T.take k).length := by unfold Z0x; rw [List.length_map]; exact List.length_filter_le _ _
       rw [List.length_take] at h1
       omega) ⟨hFl.1, fun j e a => by have := hvn j e; have := hFl.2.2 j a; omega⟩ ⟨Za c4 c8 (by decide), Za c5 c8 (by decide)⟩ ⟨by show 161 ≠ _; decide, by show 161 ≠ _; decide⟩ (fun j e => by have := hvn j e; have := Z2 c4; have := Z2 ctc; refine ⟨?_, ?_, ?_⟩ <;> omega) htcW htsW htn hto (fun j e e2 => by have := hvn j e2; have := (hts.lt j e).2; omega) (by rw [Z1 ((show Z0P W p (ebI t) from heb.kept hR.only (hne heb (by show 161 ≠ _; decide) (by show 161 ≠ _; decide))))]; rfl)
   refine hcall.mono ?_
   intro e w' hp2
   have := hR.step hvn hp2 hgo hgl
   rw [ZbY ht]
   exact this
theorem Z0W.byType {S F : Nat -> Prop} {w w' : World} {tb : Nat} {e : TE} (h : Z0W w F tb e) (ho : Z0 S w w') (hS : ∀ {k : Nat} {cs : Array Value} {ty : TypeId}, w.heap[k]? = some (.cells cs ty (0, 0)) -> (ty = 150 ∨ ty = 39) -> ¬ S k) : Z0W w' F tb e := by
 obtain ⟨A, c, h1, h2, h3, h4, h5⟩ := h.eb
 refine Z0W.of_eb (ho.get h1 (hS h1 (Or.inl rfl))) ((h2.kept ho (fun k e => ?_)).mono (fun k e => e.1)) h3 h4 (fun g e => ?_) h.own h.pos h.num
 ·obtain ⟨_, cur, hh⟩ := e
  exact hS hh (Or.inr rfl)
 ·obtain ⟨a, cur, hh⟩ := h5 g e
  exact ⟨a, cur, ho.get hh (hS hh (Or.inr rfl))⟩
def Z5v (w : World) (F : Nat -> Prop) (bb last : Nat) (T : List TE) (I : List IE) (L : List Nat) (hz : Nat) (e : Ending) (w' : World) : Prop :=
 ∃ vt vi, e = .returned (.tuple #[vt, vi]) /\ Z0 F w w' /\ ZG w' F bb (T.filter (fun t => !Z14 L hz t)) (I.filter (fun x => !Z1l L hz (Zn L hz T) x)) last
  /\ w'.ownsRow 0 34 1 vt (Zn L hz T).length (ZB (Zn L hz T)) /\ w'.ownsRow 0 34 1 vi (Z0x L hz (Zn L hz T) I).length (ZB (Z0x L hz (Zn L hz T) I)) /\ (∀ k, vt.ownBlock = some k -> w.heap.size <= k) /\ ∀ k, vi.ownBlock = some k -> w.heap.size <= k
theorem Z5v.drew {w w' : World} {F : Nat -> Prop} {bb last : Nat} {T : List TE} {I : List IE} {L : List Nat} {hz : Nat} {e : Ending} (h : Z5v w F bb last T I L hz e w') : Z5v w F bb last T I L hz e w'.drew := by
 obtain ⟨vt, vi, h1, h2, h3, h4, h5, h6, h7⟩ := h
 have hq : Quiet w' w'.drew := (Z0.refl _ _).drew
 exact ⟨vt, vi, h1, h2.drew, h3.kept hq (fun _ _ x => x), Z4 h4 hq (fun _ _ x => x), Z4 h5 hq (fun _ _ x => x), h6, h7⟩
theorem ZeN {w : World} {F Fl : Nat -> Prop} {bb lb last hz : Nat} {T : List TE} {I : List IE} {L : List Nat} (h : ZG w F bb T I last) (hl : Zy w Fl lb L) (hFl : ∀ k, Fl k -> ¬ F k) (hTl : T.length <= 1000) (hIl : I.length <= 1000) :
  Calls Tryz.prog 175 #[ptrV bb, ptrV lb, .int .u64 (hz : Int)] w (Z5v w F bb last T I L hz) := by
 obtain ⟨vT, tps, vI, ips, h, h2, h3⟩ := h
 obtain ⟨hq0, a4, a5, a8, a9⟩ := ZeE w (.cells #[ptrV lb] 69) (.cells #[.int .u64 (hz : Int)] 34) (.cells #[.slice none 0 0] 82) (.cells #[.slice none 0 0] 82)
 obtain ⟨r4, hr4⟩ : ∃ r4, w.heap.size = r4 := ⟨_, rfl⟩
 obtain ⟨r5, hr5⟩ : ∃ r5, r4 + 1 = r5 := ⟨_, rfl⟩
 obtain ⟨r8, hr8⟩ : ∃ r8, r5 + 1 = r8 := ⟨_, rfl⟩
 obtain ⟨r9, hr9⟩ : ∃ r9, r8 + 1 = r9 := ⟨_, rfl⟩
 rw [hr4] at a4 a5 a8 a9
 rw [hr5] at a5 a8 a9
 rw [hr8] at a8 a9
 rw [hr9] at a9
 have HR := zh (And.intro hr4 (And.intro hr5 (And.intro hr8 hr9)))
 have HH := zh h
 have HL : Hid (Zy w (fun k => Fl k /\ k < w.heap.size) lb L) := hl.lim
 have HX := zh (And.intro h2 h3)
 have HFL := zh hFl
 have htl := h.tlen
 obtain ⟨nT, hnT⟩ : ∃ nT, T.length = nT := ⟨_, rfl⟩
 obtain ⟨nI, hnI⟩ : ∃ nI, I.length = nI := ⟨_, rfl⟩
 have HNN : Hid (T.length = nT /\ tps.length = nT /\ I.length = nI /\ ips.length = nI) := ⟨hnT, by omega, hnI, by omega⟩
 have HB0 := zh (hq0.get h.box (fun x => x))
 have HQ0 := zh hq0
 have HA := zh (And.intro a4 (And.intro a5 (And.intro a8 a9)))
 have HLEN : Hid (nT <= 1000 /\ nI <= 1000) := ⟨by omega, by omega⟩
 obtain ⟨Z8, Z6⟩ : ∃ Z8, Z5v w F bb last T I L hz = Z8 := ⟨_, rfl⟩
 rw [Z6]
 have Zb := zh Z6
 clear h hl hFl h2 h3 Z6 htl hnT hnI hTl hIl
 go_enter Tryz.func175, Tryz.ntmps175
 go_upto_region 4 with fail
 (try simp only [World.size_alloc] at *)
 (try rw [hr4]); (try rw [hr5]); (try rw [hr8]); (try rw [hr9])
 generalize (((w.alloc (.cells #[ptrV lb] 69)).alloc (.cells #[.int .u64 (hz : Int)] 34)).alloc (.cells #[.slice none 0 0] 82)).alloc (.cells #[.slice none 0 0] 82) = w0 at *
 have hll := HR.out
 have hs8 := Z2 HA.out.2.2.1
 have hs5 := Z2 HA.out.2.1
 have hzq := HQ0.out.size
 have hrowT : w0.ownsRow 0 144 1 vT nT (tps.map ptrV) := by
  rw [<- HNN.out.1]
  exact Z4 HH.out.rowT HQ0.out (fun _ _ x => x)
 obtain ⟨AT, cT, hvT, hDT⟩ := ZaL (F := F) (Fl := fun k => Fl k /\ k < w.heap.size) (lb := lb) (lc := r4) (zc := r5) (oc := r8) (hz := hz) (L := L) (T := T) (tps := tps) hrowT HNN.out.1 HNN.out.2.1 (by have := HLEN.out; omega) (fun i e hi => by obtain ⟨p, x, y⟩ := HH.out.tbl i e hi; exact ⟨p, x, y.kept HQ0.out (fun _ _ z => z)⟩) (HL.out.kept HQ0.out (fun _ _ x => x)) HA.out.1 HA.out.2.1 HA.out.2.2.1 ⟨fun e => by have := e.2; omega, fun k e a => HFL.out k a.1 (HH.out.foot.2.1 k e), fun k e => by have := e.2; omega⟩ hs5
 subst hvT
 have HDT := zh hDT
 have k0 := Z1 HB0.out 0
 have kf := fun o => Z7 HB0.out o
 have lbb := Z2 HB0.out
 simp only [zGA, zGS, zGZ] at k0
 clear hq0 a4 a5 a8 a9 hr4 hr5 hr8 hr9 hrowT hDT hs8 hs5 hll hzq
 go_wp2_with fail
 refine HDT.out.mono ?_
 rintro e w1 ⟨v2, rfl, hv2b, hon1, ⟨vo, hvo, hvon⟩, hrow2⟩
 obtain ⟨A2, c2, rfl, hc2, hm2, _⟩ := Z9 hrow2
 have HON1 := zh hon1
 have HVO := zh (And.intro hvo hvon)
 have HROW2 := zh hrow2
 have HV2 := zh hv2b
 have hbbn : ¬ (bb = r8 ∨ (Value.slice AT nT cT).ownBlock = some bb) := fun e => by
  rcases e with e | e
  ·have := Z2 HH.out.box; have := HR.out; omega
  ·obtain ⟨cc, hh⟩ := Zj HH.out.rowT e
   exact Za HH.out.box hh (by decide) rfl
 have b1 := hon1.get HB0.out hbbn
 have k1 := Z1 b1 0
 have kf1 := fun o => Z7 b1 o
 have lb1 := Z2 b1
 simp only [zGA, zGS, zGZ] at k1
 obtain ⟨m2, hm2'⟩ : ∃ m2, (Z15 (Z14 L hz) tps T).length = m2 := ⟨_, rfl⟩
 rw [hm2'] at HROW2 HV2 ⊢
 have HM2 := zh hm2'
 have ho2 : Z0 (fun k => k = bb) w1 (w1.setCell ⟨bb, 0, none⟩ (.slice A2 m2 c2)) := (Z0.refl (fun k => k = bb) w1).setCell (p := ⟨bb, 0, none⟩) (fun _ => rfl) _
 have HO2 := zh ho2
 have HB2 : Hid ((w1.setCell ⟨bb, 0, none⟩ (.slice A2 m2 c2)).heap[bb]? = some (.cells #[.slice A2 m2 c2, vI, .int .u64 (last : Int)] 138 (0, 0))) := by
  show _ = _
  rw [Zf b1]
  rfl
 clear hon1 hvo hvon hrow2 hv2b hbbn b1 ho2 HDT k0 kf hc2 hm2 hm2' lbb
 go_upto_region 5 with fail
 generalize w1.setCell ⟨bb, 0, none⟩ (.slice A2 m2 c2) = w2 at *
 have HO12 : Hid (Z0 (fun k => k = r8 ∨ (Value.slice AT nT cT).ownBlock = some k ∨ k = bb) w0 w2) := (HON1.out.mono (fun k _ e => by rcases e with e | e; exact Or.inl e; exact Or.inr (Or.inl e))).trans (HO2.out.mono (fun k _ e => Or.inr (Or.inr e)))
 have HTG : Hid (∀ k, (Value.slice AT nT cT).ownBlock = some k -> ∃ cc, w.heap[k]? = some (.cells cc 144 (0, 0))) := fun k e => Zj HH.out.rowT e
 have HIG : Hid (∀ k, vI.ownBlock = some k -> ∃ cc, w.heap[k]? = some (.cells cc 159 (0, 0))) := fun k e => Zj HH.out.rowI e
 have HNB : Hid (∀ {k : Nat} {cs : Array Value} {ty : TypeId}, w.heap[k]? = some (.cells cs ty (0, 0)) -> ty ≠ 144 -> k ≠ bb -> ¬ (k = r8 ∨ (Value.slice AT nT cT).ownBlock = some k ∨ k = bb)) := by
  show ∀ {k : Nat} {cs : Array Value} {ty : TypeId}, _
  intro k cs ty hk h1 h2 e
  rcases e with e | e | e
  ·have := Z2 hk; have := HR.out; omega
  ·obtain ⟨cc, hh⟩ := HTG.out k e
   exact Za hk hh h1 rfl
  ·exact h2 e
 have HNN2 : Hid (∀ {k : Nat}, w.heap.size <= k -> k ≠ r8 -> ¬ (k = r8 ∨ (Value.slice AT nT cT).ownBlock = some k ∨ k = bb)) := by
  show ∀ {k : Nat}, _
  intro k hk h1 e
  rcases e with e | e | e
  ·exact h1 e
  ·obtain ⟨cc, hh⟩ := HTG.out k e
   have := Z2 hh
   omega
  ·have := Z2 HH.out.box; omega
 have HRI2 : Hid (w2.ownsRow 0 159 1 vI nI (ips.map ptrV)) := by
  show World.ownsRow _ _ _ _ _ _ _
  have e1 : ips.length = nI := HNN.out.2.2.2
  rw [<- e1]
  refine Z4 (Z4 HH.out.rowI HQ0.out (fun _ _ x => x)) HO12.out (fun k e => ?_)
  obtain ⟨cc, hh⟩ := HIG.out k e
  exact HNB.out hh (by decide) (fun e2 => Za hh HH.out.box (by decide) e2)
 have HA2 : Hid (w2.heap[r4]? = some (.cells #[ptrV lb] 69 (0, 0)) /\ w2.heap[r5]? = some (.cells #[.int .u64 (hz : Int)] 34 (0, 0)) /\ w2.heap[r9]? = some (.cells #[.slice none 0 0] 82 (0, 0))) := by
  have hr := HR.out
  exact ⟨HO12.out.get HA.out.1 (HNN2.out (by omega) (by omega)), HO12.out.get HA.out.2.1 (HNN2.out (by omega) (by omega)), HO12.out.get HA.out.2.2.2 (HNN2.out (by omega) (by omega))⟩
 obtain ⟨AO, cO, hvo, hcO, hmO, _⟩ := Z9 HVO.out.1.own
 obtain ⟨nO, hnO⟩ : ∃ nO, (Zn L hz T).length = nO := ⟨_, rfl⟩
 rw [hnO] at hvo
 subst hvo
 have HNO := zh hnO
 have HV12 : Hid (Z1S w2 r8 (.slice AO nO cO) (Zn L hz T)) := HVO.out.1.kept HO2.out (fun e => by have h1 : r8 = bb := e; have := Z2 HH.out.box; have := HR.out; omega) (fun k e e2 => by have h1 : k = bb := e2; have h2 := HVO.out.2 k e; have := Z2 HH.out.box; have := HQ0.out.size; omega)
 have HLG2 : Hid (Zy w2 (fun k => Fl k /\ k < w.heap.size) lb L) := (HL.out.kept HQ0.out (fun _ _ x => x)).kept HO12.out (fun k a e => by
   rcases e with e | e | e
   · have := a.2; have := HR.out; omega
   · obtain ⟨cc, hh⟩ := HTG.out k e
     exact HFL.out k a.1 (HH.out.foot.2.1 k e)
   · exact HFL.out k a.1 (by rw [e]; exact HH.out.foot.1))
 have hz02 := HO12.out.size
 have hz00 := HQ0.out.size
 have hr := HR.out
 obtain ⟨AI, cI, hvI, hDX⟩ := Z9k (F := F) (Fl := fun k => Fl k /\ k < w.heap.size) (lb := lb) (lc := r4) (zc := r5) (tc := r8) (oc := r9) (hz := hz) (L := L) (ts := Zn L hz T) (T := I) (tps := ips) HRI2.out HNN.out.2.2.1 HNN.out.2.2.2 (by have := HLEN.out; omega) (fun i e hi => by
   obtain ⟨p, x, y⟩ := HX.out.2 i e hi
   exact ⟨p, x, ⟨HO12.out.get (HQ0.out.get y.box (fun z => z)) (HNB.out y.box (by decide) (fun e2 => Za y.box HH.out.box (by decide) e2)), y.own, y.num⟩⟩) HLG2.out HA2.out.1 HA2.out.2.1 HV12.out.box (by have := HV12.out.own; rw [HNO.out] at this; exact this) HNO.out (by omega) HA2.out.2.2 ⟨fun e => by have := e.2; omega, fun k e a => HFL.out k a.1 (HH.out.foot.2.2 k e), fun k e => by have := e.2; omega⟩ (Z2 HA2.out.2.1)
 have HVI := zh hvI
 have HDX := zh hDX
 clear hDX hvI hcO hmO hnO hz02 hz00 hr k1 kf1 lb1
 have hb2 := HB2.out
 rw [HVI.out] at hb2
 have k2 := Z1 hb2 1
 have kf2 := fun o => Z7 hb2 o
 simp only [zGA, zGS, zGZ] at k2
 have lb2 := Z2 hb2
 clear hb2
 go_wp2_with fail
 refine HDX.out.mono ?_
 rintro e w3 ⟨v3, rfl, hv3b, hon3, ⟨vo2, hvo2, hvon2⟩, hrow3⟩
 obtain ⟨A3, c3, rfl, _, _, _⟩ := Z9 hrow3
 have HON3 := zh hon3
 have HVO2 := zh (And.intro hvo2 hvon2)
 have HROW3 := zh hrow3
 have HV3 := zh hv3b
 have HN3 : Hid (∀ {k : Nat} {cs : Array Value} {ty : TypeId}, k ≠ r9 -> w.heap[k]? = some (.cells cs ty (0, 0)) -> ty ≠ 159 -> ¬ (k = r9 ∨ vI.ownBlock = some k)) := by
  show ∀ {k : Nat} {cs : Array Value} {ty : TypeId}, _
  intro k cs ty h0 hk h1 e
  rcases e with e | e
  ·exact h0 e
  ·obtain ⟨cc, hh⟩ := HIG.out k e
   exact Za hk hh h1 rfl
 have hbr : bb ≠ r9 := fun e => by have := Z2 HH.out.box; have := HR.out; omega
 have b3 := hon3.get HB2.out (HN3.out hbr HH.out.box (by decide))
 have k3 := Z1 b3 1
 have kf3 := fun o => Z7 b3 o
 have lb3 := Z2 b3
 simp only [zGA, zGS, zGZ] at k3
 obtain ⟨m3, hm3⟩ : ∃ m3, (Z15 (Z1l L hz (Zn L hz T)) ips I).length = m3 := ⟨_, rfl⟩
 rw [hm3] at HROW3 HV3 ⊢
 have HM3 := zh hm3
 have HO4 : Hid (Z0 (fun k => k = bb) w3 (w3.setCell ⟨bb, 1, none⟩ (.slice A3 m3 c3))) := (Z0.refl (fun k => k = bb) w3).setCell (p := ⟨bb, 1, none⟩) (fun _ => rfl) _
 have HB4 : Hid ((w3.setCell ⟨bb, 1, none⟩ (.slice A3 m3 c3)).heap[bb]? = some (.cells #[.slice A2 m2 c2, .slice A3 m3 c3, .int .u64 (last : Int)] 138 (0, 0))) := by
  show _ = _
  rw [Zf b3]
  rfl
 clear hv3b hon3 hvo2 hvon2 hrow3 hbr b3 hm3 HDX k2 kf2 lb2
 go_upto_region 6 with fail
 generalize w3.setCell ⟨bb, 1, none⟩ (.slice A3 m3 c3) = w4 at *
 have hr := HR.out
 have hbl := Z2 HH.out.box
 have hz00 := HQ0.out.size
 have hz02 := HO12.out.size
 obtain ⟨AP, cP, hvp, _, _, _⟩ := Z9 HVO2.out.1.own
 obtain ⟨nP, hnP⟩ : ∃ nP, (Z0x L hz (Zn L hz T) I).length = nP := ⟨_, rfl⟩
 rw [hnP] at hvp
 subst hvp
 have hiu : ∀ k, vI.ownBlock = some k -> k < w.heap.size := fun k e => by obtain ⟨cc, hh⟩ := HIG.out k e; exact Z2 hh
 have hv84 : Z1S w4 r8 (.slice AO nO cO) (Zn L hz T) := by
  refine (HV12.out.kept HON3.out (fun e => ?_) (fun k e e2 => ?_)).kept HO4.out (fun e => ?_) (fun k e e2 => ?_)
  ·rcases e with e | e
   ·omega
   ·have := hiu _ e; omega
  ·have h1 := HVO.out.2 k e
   rcases e2 with e2 | e2
   ·obtain ⟨cc, hh⟩ := Zj HV12.out.own e
    exact Za hh HA2.out.2.2 (by decide) e2
   ·have := hiu _ e2; omega
  ·have h1 : r8 = bb := e; omega
  ·have h1 := HVO.out.2 k e
   have h2 : k = bb := e2
   omega
 have hv94 : Z1S w4 r9 (.slice AP nP cP) (Z0x L hz (Zn L hz T) I) := by
  refine HVO2.out.1.kept HO4.out (fun e => ?_) (fun k e e2 => ?_)
  ·have h1 : r9 = bb := e; omega
  ·have h1 := HVO2.out.2 k e
   have h2 : k = bb := e2
   omega
 have hOA : Z0 (fun k => (k = r8 ∨ (Value.slice AT nT cT).ownBlock = some k ∨ k = bb) ∨ (k = r9 ∨ vI.ownBlock = some k) ∨ k = bb) w w4 := (((HQ0.out.mono (fun _ _ x => x.elim)).trans (HO12.out.mono (fun _ _ e => Or.inl e))).trans (HON3.out.mono (fun _ _ e => Or.inr (Or.inl e)))).trans (HO4.out.mono (fun _ _ e => Or.inr (Or.inr e)))
 have hlT : (T.filter (fun t => !Z14 L hz t)).length = m2 := by rw [Z4j (Z14 L hz) (by rw [HNN.out.2.1, HNN.out.1]), List.length_map]; exact HM2.out
 have hlI : (I.filter (fun x => !Z1l L hz (Zn L hz T) x)).length = m3 := by rw [Z4j (Z1l L hz (Zn L hz T)) (by rw [HNN.out.2.2.2, HNN.out.2.2.1]), List.length_map]; exact HM3.out
 have hbk : ZG w4 F bb (T.filter (fun t => !Z14 L hz t)) (I.filter (fun x => !Z1l L hz (Zn L hz T) x)) last := by
  refine ⟨.slice A2 m2 c2, (Z15 (Z14 L hz) tps T).map (fun z => z.1), .slice A3 m3 c3, (Z15 (Z1l L hz (Zn L hz T)) ips I).map (fun z => z.1), ⟨HB4.out, ?_, ?_, fun i e hi => ?_, ⟨HH.out.foot.1, fun k e => ?_, fun k e => ?_⟩, HH.out.num⟩, ?_, fun i e hi => ?_⟩
  ·rw [hlT, List.map_map]
   refine Z4 (Z4 (Z4 HROW2.out HO2.out (fun k e e2 => ?_)) HON3.out (fun k e e2 => ?_)) HO4.out (fun k e e2 => ?_)
   ·rw [HV2.out] at e
    obtain ⟨cc, hh⟩ := HTG.out k e
    exact Za hh HH.out.box (by decide) e2
   ·rw [HV2.out] at e
    obtain ⟨cc, hh⟩ := HTG.out k e
    exact HN3.out (by have := Z2 hh; omega) hh (by decide) e2
   ·rw [HV2.out] at e
    obtain ⟨cc, hh⟩ := HTG.out k e
    exact Za hh HH.out.box (by decide) e2
  ·rw [List.length_map, HM3.out, List.map_map]
   refine Z4 HROW3.out HO4.out (fun k e e2 => ?_)
   rw [HV3.out] at e
   obtain ⟨cc, hh⟩ := HIG.out k e
   exact Za hh HH.out.box (by decide) e2
  ·rw [Z4j (Z14 L hz) (by rw [HNN.out.2.1, HNN.out.1]), List.getElem?_map] at hi
   obtain ⟨z, hz1, rfl⟩ := Option.map_eq_some_iff.1 hi
   obtain ⟨_, j, h1, h2⟩ := Zal (List.mem_of_getElem? hz1)
   obtain ⟨p, h3, h4⟩ := HH.out.tbl j _ h2
   rw [h1] at h3
   injection h3 with h3
   subst h3
   refine ⟨z.1, by rw [List.getElem?_map, hz1]; rfl, h4.byType hOA (fun {k cs ty} hk ht e => ?_)⟩
   rcases e with e | e | e
   ·exact HNB.out hk (by rcases ht with rfl | rfl <;> decide) (fun e2 => Za hk HH.out.box (by rcases ht with rfl | rfl <;> decide) e2) e
   ·exact HN3.out (by have := Z2 hk; omega) hk (by rcases ht with rfl | rfl <;> decide) e
   ·exact Za hk HH.out.box (by rcases ht with rfl | rfl <;> decide) e
  ·rw [HV2.out] at e
   exact HH.out.foot.2.1 k e
  ·rw [HV3.out] at e
   exact HH.out.foot.2.2 k e
  ·rw [List.length_map, hlI]; exact HM3.out
  ·rw [Z4j (Z1l L hz (Zn L hz T)) (by rw [HNN.out.2.2.2, HNN.out.2.2.1]), List.getElem?_map] at hi
   obtain ⟨z, hz1, rfl⟩ := Option.map_eq_some_iff.1 hi
   obtain ⟨_, j, h1, h2⟩ := Zal (List.mem_of_getElem? hz1)
   obtain ⟨p, h3, h4⟩ := HX.out.2 j _ h2
   rw [h1] at h3
   injection h3 with h3
   subst h3
   refine ⟨z.1, by rw [List.getElem?_map, hz1]; rfl, ⟨hOA.get h4.box (fun e => ?_), h4.own, h4.num⟩⟩
   rcases e with e | e | e
   ·exact HNB.out h4.box (by decide) (fun e2 => Za h4.box HH.out.box (by decide) e2) e
   ·exact HN3.out (by have := Z2 h4.box; omega) h4.box (by decide) e
   ·exact Za h4.box HH.out.box (by decide) e
 have Zc : Hid (Z8 (.returned (.tuple #[.slice AO nO cO, .slice AP nP cP])) w4.drew) := by
  rw [<- Zb.out]
  refine Z5v.drew ⟨_, _, rfl, hOA.mono (fun k hk e => ?_), hbk, hv84.own, hv94.own, fun k e => by have := HVO.out.2 k e; omega, fun k e => by have := HVO2.out.2 k e; omega⟩
  rcases e with (e | e | e) | (e | e) | e
  ·omega
  ·exact HH.out.foot.2.1 k e
  ·rw [e]; exact HH.out.foot.1
  ·omega
  ·exact HH.out.foot.2.2 k e
  ·rw [e]; exact HH.out.foot.1
 have k8 := Z1 hv84.box 0
 have k9 := Z1 hv94.box 0
 simp only [zGA, zGS, zGZ] at k8 k9
 clear hr hbl hz00 hz02 hnP hiu hv84 hv94 hOA hlT hlI hbk k3 kf3 lb3
 go_region
 go_wp2
 exact Zc.out
def Z0I (s : St) (id : Nat) : St := { s with hs := upd s.hs id none, left := s.left + ((s.hs id).getD []).length }
def Z1X (s : St) (id : Nat) : St := { s with ts := upd s.ts id none }
def Z0e (s : St) (hz : Nat) : St := { s with T := s.T.filter (fun t => !Z14 s.L hz t), I := s.I.filter (fun x => !Z1l s.L hz (Zn s.L hz s.T) x) }
def Z0D (s : St) (hz : Nat) : St := (Z0x s.L hz (Zn s.L hz s.T) s.I).foldl Z1X ((Zn s.L hz s.T).foldl Z0I (Z0e s hz))
theorem Z6F (i : Nat) : ∀ (l : List Nat) (s : St), (l.foldl Z0I s).hs i = if i ∈ l then none else s.hs i
 | [], s => by simp
 | a :: l, s => by
  rw [List.foldl_cons, Z6F i l]
  by_cases h : i ∈ l
  ·simp [h]
  ·by_cases e : i = a
   ·subst e; simp [Z0I, upd]
   ·simp [Z0I, upd, h, e]
section
variable {w w' : World} {sb lb bb pb mh mt ms : Nat} {o : Nat -> Nat} {s : St} {fh ft fs : Nat -> Option Value}
theorem Zh.delHeap {id : Nat} (h : Zh w sb o s lb bb pb mh mt ms fh ft fs) (ho : Z0 (fun k => k = mh) w w') (hm : Z09 w' mh (upd fh id none)) :
  Zh w' sb o { s with hs := upd s.hs id none } lb bb pb mh mt ms (upd fh id none) ft fs := by
 obtain ⟨t1, t2, t3, t4, t5⟩ := h.tags
 have hn : ∀ k, k = mh -> o k = 6 := fun k x => by rw [x]; exact t3
 refine ⟨ho.get h.box (fun x => by have := hn _ x; omega), Z46 h.log ho .refl (by omega) (fun k x => by have := hn _ x; omega), Z2M h.book ho .refl (by omega) (fun k x => by have := hn _ x; omega), h.pool.kept ho (fun x => by have := hn _ x; omega),
   hm, h.mT.kept ho (fun x => by have := hn _ x; omega), h.mS.kept ho (fun x => by have := hn _ x; omega), h.tags, fun k hk => h.big k (Nat.le_trans ho.size hk),
   ⟨fun i hi => ?_, fun i y hi => ?_⟩, Z3g h.trees ho .refl (fun k x i es _ => by have := hn _ x; omega), Z2F h.snaps ho .refl (fun k x => by have := hn _ x; omega), h.num⟩
 ·by_cases e : i = id
  ·subst e; simp [upd]
  ·have := h.heaps.1 i (by simpa [upd, e] using hi)
   simpa [upd, e] using this
 ·by_cases e : i = id
  ·subst e; simp [upd] at hi
  ·obtain ⟨hb, e2, h2⟩ := h.heaps.2 i y (by simpa [upd, e] using hi)
   exact ⟨hb, by simpa [upd, e] using e2, ZaN h2 ho .refl (by omega) (fun k x => by have := hn _ x; omega)⟩
theorem Zh.delTree {id : Nat} (h : Zh w sb o s lb bb pb mh mt ms fh ft fs) (ho : Z0 (fun k => k = mt) w w') (hm : Z09 w' mt (upd ft id none)) :
  Zh w' sb o { s with ts := upd s.ts id none } lb bb pb mh mt ms fh (upd ft id none) fs := by
 obtain ⟨t1, t2, t3, t4, t5⟩ := h.tags
 have hn : ∀ k, k = mt -> o k = 7 := fun k x => by rw [x]; exact t4
 refine ⟨ho.get h.box (fun x => by have := hn _ x; omega), Z46 h.log ho .refl (by omega) (fun k x => by have := hn _ x; omega), Z2M h.book ho .refl (by omega) (fun k x => by have := hn _ x; omega), h.pool.kept ho (fun x => by have := hn _ x; omega),
   h.mH.kept ho (fun x => by have := hn _ x; omega), hm, h.mS.kept ho (fun x => by have := hn _ x; omega), h.tags, fun k hk => h.big k (Nat.le_trans ho.size hk),
   Z3f h.heaps ho .refl (fun k x i H _ => by have := hn _ x; omega), ⟨fun i hi => ?_, fun i y hi => ?_⟩, Z2F h.snaps ho .refl (fun k x => by have := hn _ x; omega), h.num⟩
 ·by_cases e : i = id
  ·subst e; simp [upd]
  ·have := h.trees.1 i (by simpa [upd, e] using hi)
   simpa [upd, e] using this
 ·by_cases e : i = id
  ·subst e; simp [upd] at hi
  ·obtain ⟨hb, e2, h2⟩ := h.trees.2 i y (by simpa [upd, e] using hi)
   exact ⟨hb, by simpa [upd, e] using e2, ZaO h2 ho .refl (by omega) (fun k x => by have := hn _ x; omega)⟩
end
structure Z6N (w d2 wr : World) (o : Nat -> Nat) (sb : Nat) (S : St) (lb bb pb mh mt ms : Nat) (fs : Nat -> Option Value) : Prop where
 row : ∃ o' fh ft, Zh wr sb o' S lb bb pb mh mt ms fh ft fs /\ (∀ j, j < w.heap.size -> o' j = o j) /\ ∀ j, w.heap.size <= j -> j < d2.heap.size -> o' j = 3 ∨ o' j = 0
 only : Z0 (fun j => o j ≠ 0 /\ o j ≠ 3) d2 wr
theorem Zdn {l : List Nat} {k : Nat} {u : Value} (h : (ZB l)[k]? = some u) : ∃ y : Nat, l[k]? = some y /\ u = .int .u64 (y : Int) := by
 unfold ZB at h
 rw [List.getElem?_map] at h
 rcases e : l[k]? with _ | y
 ·rw [e] at h; cases h
 ·rw [e] at h; injection h with h; exact ⟨y, rfl, h.symm⟩
theorem Z7r {w : World} {sb hz N : Nat} {o : Nat -> Nat} {s : St} (h : Zm w sb o s) (hh : Z19 s hz) (hL : s.L.length < 1000000000) (hN : ∀ x y, s.sn x = some y -> x <= N) (hN2 : N <= 2000000) (hTl : s.T.length <= 1000) (hIl : s.I.length <= 1000)
  (hnd : (Zn s.L hz s.T).Nodup) (hhp : ∀ id ∈ Zn s.L hz s.T, ∃ H, s.hs id = some H) (hleft : ∀ k, k < (Zn s.L hz s.T).length -> (((Zn s.L hz s.T).take k).foldl Z0I (Z0e s hz)).left <= 256) :
  Calls Tryz.prog 137 #[ptrV sb] w (fun e w' => e = .returned (.int .i64 (((Zn s.L hz s.T).length + (Z0x s.L hz (Zn s.L hz s.T) s.I).length : Nat) : Int)) /\ Z0E w sb o (Z0D s hz) w') := by
 have HST := zh h
 obtain ⟨lb, bb, pb, mh, mt, ms, fh, ft, fs, h⟩ := h
 have HH := zh h
 have HHZ := zh hh
 have HNN := zh (And.intro hL (And.intro hN hN2))
 have HLEN := zh (And.intro hTl hIl)
 obtain ⟨tids, htids⟩ : ∃ l, Zn s.L hz s.T = l := ⟨_, rfl⟩
 obtain ⟨xids, hxids⟩ : ∃ l, Z0x s.L hz tids s.I = l := ⟨_, rfl⟩
 rw [htids] at hnd hhp hleft
 have hut : ∀ id ∈ tids, U64 id := fun id hid => by
  rw [<- htids] at hid
  obtain ⟨t, ht, rfl⟩ := List.mem_map.1 hid
  obtain ⟨i, hi⟩ := List.mem_iff_getElem?.1 (List.mem_filter.1 ht).1
  obtain ⟨vT, tps, vI, ips, h1, h2, h3⟩ := h.book
  obtain ⟨p, _, h4⟩ := h1.tbl i t hi
  exact h4.num.1
 have hux : ∀ id ∈ xids, U64 id := fun id hid => by
  rw [<- hxids] at hid
  obtain ⟨t, ht, rfl⟩ := List.mem_map.1 hid
  obtain ⟨i, hi⟩ := List.mem_iff_getElem?.1 (List.mem_filter.1 ht).1
  obtain ⟨vT, tps, vI, ips, h1, h2, h3⟩ := h.book
  obtain ⟨p, _, h4⟩ := h3 i t hi
  exact h4.num.1
 have hps : Z0D s hz = xids.foldl Z1X (tids.foldl Z0I (Z0e s hz)) := by
  unfold Z0D
  rw [htids, hxids]
 obtain ⟨nT, hnT⟩ : ∃ n, tids.length = n := ⟨_, rfl⟩
 obtain ⟨nI, hnI⟩ : ∃ n, xids.length = n := ⟨_, rfl⟩
 have hln : nT <= 1000 /\ nI <= 1000 := by
  constructor
  ·rw [<- hnT, <- htids]
   unfold Zn
   rw [List.length_map]
   exact Nat.le_trans (List.length_filter_le _ _) hTl
  ·rw [<- hnI, <- hxids]
   unfold Z0x
   rw [List.length_map]
   exact Nat.le_trans (List.length_filter_le _ _) hIl
 obtain ⟨hln1, hln2⟩ := hln
 have HNT := zh (And.intro hnT hnI)
 have HID := zh (And.intro htids hxids)
 have HU := zh (And.intro hut hux)
 have HPS := zh hps
 have HD := zh (And.intro hnd (And.intro hhp hleft))
 obtain ⟨Z8, Z6⟩ : ∃ Z8 : Ending -> World -> Prop, (fun e w' => e = .returned (.int .i64 (((Zn s.L hz s.T).length + (Z0x s.L hz (Zn s.L hz s.T) s.I).length : Nat) : Int)) /\ Z0E w sb o (Z0D s hz) w') = Z8 := ⟨_, rfl⟩
 rw [Z6]
 have Zb := zh Z6
 have HHO : Hid (∀ W, Quiet w W -> Calls Tryz.prog 36 #[ptrV sb] W (fun e w' => e = .returned (.int .u64 (hz : Int)) /\ Quiet W w')) := fun W hq => by
  refine (Z2Q (HST.out.quietly hq) HNN.out.1 HNN.out.2.1 HNN.out.2.2).mono ?_
  rintro e w' ⟨z, rfl, hh, hq'⟩
  rw [hh.same HHZ.out]
  exact ⟨rfl, hq'⟩
 have HPR : Hid (∀ W, Quiet w W -> Calls Tryz.prog 175 #[ptrV bb, ptrV lb, .int .u64 (hz : Int)] W (fun e w' => ∃ A1 c1 A2 c2, e = .returned (.tuple #[.slice A1 nT c1, .slice A2 nI c2]) /\ Z0 (fun k => o k = 3) W w' /\ ZG w' (fun k => o k = 3) bb (Z0e s hz).T (Z0e s hz).I s.blast
     /\ Rd w' (fun j => W.heap.size <= j) 1 A1 nT (ZB tids) /\ Rd w' (fun j => W.heap.size <= j) 1 A2 nI (ZB xids))) := fun W hq => by
  refine (ZeN (HH.out.quietly hq).book (HH.out.quietly hq).log (fun k e x => by omega) HLEN.out.1 HLEN.out.2).mono ?_
  rintro e w' ⟨vt, vi, rfl, ho, hb, ht, hi, hn1, hn2⟩
  rw [HID.out.1] at ht hi
  rw [HID.out.2] at hi
  obtain ⟨A1, c1, rfl, _, _, hr1⟩ := Z9 ht
  obtain ⟨A2, c2, rfl, _, _, hr2⟩ := Z9 hi
  rw [HNT.out.1] at hr1 hn1 ⊢
  rw [HNT.out.2] at hr2 hn2 ⊢
  exact ⟨A1, c1, A2, c2, rfl, ho, hb, hr1.mono (fun j e => hn1 j e), hr2.mono (fun j e => hn2 j e)⟩
 have HS : Hid (∀ W, Z0 (fun k => o k = 3) w W -> (fun w' => w'.cell? ⟨sb, 1, none⟩ = some (ptrV bb) /\ w'.cell? ⟨sb, 0, none⟩ = some (ptrV lb)) W) := fun W ho => by
  have tg := HH.out.tags
  exact ⟨ho.cell HH.out.cells.2.1 (fun e => by dsimp only at e; omega), ho.cell HH.out.cells.1 (fun e => by dsimp only at e; omega)⟩
 clear h hh hL hN hN2 Z6 hTl hIl hnd hhp hleft hut hux hps htids hxids hnT hnI
 go_enter Tryz.func137, Tryz.ntmps137
 go_wp2_with fail
 refine zH HS (((Z0.refl (fun k => o k = 3) _)).drew) (fun Z3 => ?_)
 have q0 : Quiet w w.drew := (Z0.refl _ _).drew
 generalize w.drew = d0 at q0 Z3 ⊢
 refine zT 0 ?_
 refine zT 1 ?_
 refine zT 2 ?_
 refine zT 3 ?_
 refine zT 4 ?_
 refine zT 5 ?_
 refine zT 6 ?_
 refine zT 7 ?_
 refine zT 8 ?_
 refine zR 9 ?_
 intro K hK
 go_simp
 go_at_call 36
 refine (HHO.out _ q0).mono ?_
 rintro e d1 ⟨rfl, hq1⟩
 have q1 := q0.trans hq1
 clear hq1
 dsimp only
 refine hK.out _ _ ?_ (fun Z3 => ?_)
 ·exact HS.out _ (q1.mono (fun _ _ x => x.elim))
 clear hK K
 (try simp only [Act.put, zPA, zPZ, zPS])
 refine zR 10 ?_
 intro K hK
 go_simp
 go_at_call 175
 refine (HPR.out _ q1).mono ?_
 rintro e d2 ⟨A1, c1, A2, c2, rfl, ho2, hb2, hr1, hr2⟩
 dsimp only
 refine hK.out _ _ ?_ (fun Z3 => ?_)
 ·exact HS.out _ ((q1.mono (T := fun k => o k = 3) (fun _ _ x => x.elim)).trans ho2)
 clear hK K
 (try simp only [Act.put, zPA, zPZ, zPS])
 refine zT 11 ?_
 refine zT 12 ?_
 refine zT 13 ?_
 refine zT 14 ?_
 refine zT 15 ?_
 refine zD ?_
 have HZ : Hid (w.heap.size <= d1.heap.size /\ d1.heap.size <= d2.heap.size) := ⟨q1.size, ho2.size⟩
 have HOW : Hid (Z0 (fun k => o k = 3) w d2) := (q1.mono (fun _ _ x => x.elim)).trans ho2
 have HR1 : Hid (Rd d2 (fun j => w.heap.size <= j) 1 A1 nT (ZB tids)) := hr1.mono (fun j e => Nat.le_trans HZ.out.1 e)
 have HR2 : Hid (Rd d2 (fun j => w.heap.size <= j) 1 A2 nI (ZB xids)) := hr2.mono (fun j e => Nat.le_trans HZ.out.1 e)
 have HW0 : Hid (Z6N w d2 d2 o sb (Z0e s hz) lb bb pb mh mt ms fs) := by
  have hst := (HH.out.quietly q1).setBook ho2 (hb2.mono (fun k hk => Or.inl hk))
  have hb := HH.out.big
  exact ⟨⟨_, _, _, hst, fun j hj => Z0s (Nat.lt_of_lt_of_le hj HZ.out.1), fun j a b => by
    rcases Nat.lt_or_ge j d1.heap.size with x | x
    · right
      rw [Z0s x]
      exact hb j a
    · exact Or.inl (Z2h x b)⟩, Z0.refl _ _⟩
 clear Z3 q0 q1 ho2 hb2 hr1 hr2 HS HHO HPR
 go_wp2
 go_loopw [27, 6] (fun i _ wr => ∃ k : Nat, k <= nT /\ i = .int .i64 (k : Int) /\ Z6N w d2 wr o sb ((tids.take k).foldl Z0I (Z0e s hz)) lb bb pb mh mt ms fs) (fun i _ _ => nT - (intOf i).toNat)
 case atStart => exact ⟨0, Nat.zero_le _, rfl, HW0.out⟩
 case round =>
  obtain ⟨k, hk, rfl, hW⟩ := hrel
  have HW := zh hW
  clear hW
  by_cases hlt : k < nT
  ·obtain ⟨b, off, u, rfl, _, hu, hcell⟩ := (HR1.out.kept HW.out.only (fun j a e => e.1 (HH.out.big j a))).get hlt
   obtain ⟨id, hid, rfl⟩ := Zdn hu
   obtain ⟨H, hH0⟩ := HD.out.2.1 id (List.mem_of_getElem? hid)
   obtain ⟨o', fh', ft', hR, hO1, hO2⟩ := HW.out.row
   have hnk : id ∉ tids.take k := fun x => by
    obtain ⟨j, hj⟩ := List.mem_iff_getElem?.1 x
    have hjk : j < k := by
     have := (zi.1 hj).1
     rw [List.length_take] at this
     omega
    rw [List.getElem?_take_of_lt hjk] at hj
    have := (List.getElem?_inj (zi.1 hj).1 HD.out.1).1 (hj.trans hid.symm)
    omega
   obtain ⟨SK, hSK⟩ : ∃ SK, (tids.take k).foldl Z0I (Z0e s hz) = SK := ⟨_, rfl⟩
   have hH : SK.hs id = some H := by
    rw [<- hSK, Z6F, if_neg hnk]
    exact hH0
   have HSN : Hid ((tids.take (k + 1)).foldl Z0I (Z0e s hz) = { SK with hs := upd SK.hs id none, left := SK.left + H.length }) := by
    show _ = _
    rw [List.take_add_one, hid, Option.toList_some, List.foldl_append, hSK]
    simp [Z0I, hH]
   have hlf : SK.left <= 256 := by rw [<- hSK]; exact HD.out.2.2 k (by rw [HNT.out.1]; exact hlt)
   rw [hSK] at hR
   have HR := zh hR
   have HO12 := zh (And.intro hO1 hO2)
   have HONL := zh HW.out.only
   obtain ⟨hb, hfh, hhp⟩ := hR.heaps.2 id H hH
   have HF := zh hfh
   have hidU := HU.out.1 id (List.mem_of_getElem? hid)
   have HIU := zh hidU
   have hlk := Z1n hR.mH hfh hidU
   have HDR := zh (Zfl SK.left hhp hR.pool hlf)
   have k3 := hR.cells.2.2.2.1
   have lsb := Ze k3
   dsimp only at lsb
   clear HW hu hid hH0 hR hO1 hO2 hnk hSK hH hlf hfh hhp hidU
   go_wp2_with fail
   refine HDR.out.mono ?_
   rintro e w2 ⟨rfl, ho2, hp2, hh2⟩
   have hst := HR.out.setHeap HF.out ho2 hp2 hh2
   obtain ⟨w3, hrun, hm3, ho3⟩ := hst.mH.delete Tryz.underlying74 Tryz.underlying34 0 HIU.out
   have hst3 := hst.delHeap ho3 hm3
   have k3' := hst.cells.2.2.2.1
   have lsb' := Ze k3'
   dsimp only at lsb'
   have Zc : Hid (Z6N w d2 w3 o sb ((tids.take (k + 1)).foldl Z0I (Z0e s hz)) lb bb pb mh mt ms fs) := by
    rw [HSN.out]
    have tg := HH.out.tags
    have z1 := HONL.out.size
    have z2 := HZ.out
    simp only [Z4q] at hst3
    refine ⟨⟨_, _, _, hst3, fun j hj => by rw [Z0s (by omega)]; exact HO12.out.1 j hj, fun j a b => by rw [Z0s (by omega)]; exact HO12.out.2 j a b⟩, (HONL.out.trans' ho2 (fun j hj e => ?_)).trans' ho3 (fun j hj e => ?_)⟩
    ·rcases e with e | e
     ·rcases Nat.lt_or_ge j w.heap.size with x | x
      ·have := HO12.out.1 j x; omega
      ·have := HO12.out.2 j x hj; omega
     ·rw [e]; omega
    ·have e' : j = mh := e
     rw [e']; omega
   clear ho2 hp2 hh2 hst hm3 ho3 hst3 HDR hlk k3 lsb HSN HONL HO12 HR HF HIU hcell
   go_wp2
   go_roundw
   case rel => exact ⟨k + 1, by omega, by go_num, Zc.out⟩
   case measure => simp [intOf]; omega
  ·obtain rfl : k = nT := by omega
   obtain ⟨S2, hS2⟩ : ∃ S2, tids.foldl Z0I (Z0e s hz) = S2 := ⟨_, rfl⟩
   rw [List.take_of_length_le (by rw [HNT.out.1]; exact Nat.le_refl _), hS2] at HW
   have HS2 := zh hS2
   clear hS2 hlt
   go_wp2
   go_loopw [46, 8] (fun i _ wx => ∃ m : Nat, m <= nI /\ i = .int .i64 (m : Int) /\ Z6N w d2 wx o sb ((xids.take m).foldl Z1X S2) lb bb pb mh mt ms fs) (fun i _ _ => nI - (intOf i).toNat)
   case atStart => exact ⟨0, Nat.zero_le _, rfl, HW.out⟩
   case round =>
    obtain ⟨m, hm, rfl, hX⟩ := hrel
    have HX := zh hX
    clear hX
    by_cases hlt : m < nI
    ·obtain ⟨b, off, u, rfl, _, hu, hcell⟩ := (HR2.out.kept HX.out.only (fun j a e => e.1 (HH.out.big j a))).get hlt
     obtain ⟨id, hid, rfl⟩ := Zdn hu
     obtain ⟨o', fh', ft', hR, hO1, hO2⟩ := HX.out.row
     have hidU := HU.out.2 id (List.mem_of_getElem? hid)
     obtain ⟨w3, hrun, hm3, ho3⟩ := hR.mT.delete Tryz.underlying75 Tryz.underlying34 0 hidU
     have hst3 := hR.delTree ho3 hm3
     have k4 := hR.cells.2.2.2.2.1
     have lsb := Ze k4
     dsimp only at lsb
     have Zc : Hid (Z6N w d2 w3 o sb ((xids.take (m + 1)).foldl Z1X S2) lb bb pb mh mt ms fs) := by
      have e1 : (xids.take (m + 1)).foldl Z1X S2 = Z1X ((xids.take m).foldl Z1X S2) id := by
       rw [List.take_add_one, hid, Option.toList_some, List.foldl_append]
       rfl
      rw [e1]
      have tg := HH.out.tags
      refine ⟨⟨_, _, _, hst3, hO1, hO2⟩, HX.out.only.trans' ho3 (fun j hj e => ?_)⟩
      have e' : j = mt := e
      rw [e']; omega
     clear hu hid hR hO1 hO2 hidU hm3 ho3 hst3 HX
     go_wp2
     go_roundw
     case rel => exact ⟨m + 1, by omega, by go_num, Zc.out⟩
     case measure => simp [intOf]; omega
    ·obtain rfl : m = nI := by omega
     have hsum : IntKind.i64.wrap ((k : Int) + (m : Int)) = ((k + m : Nat) : Int) := by rw [ZE _ (by omega) (by omega)]; rfl
     have Zc : Hid (Z8 (.returned (.int .i64 ((k + m : Nat) : Int))) wr) := by
      rw [<- Zb.out]
      rw [List.take_of_length_le (by rw [HNT.out.2]; exact Nat.le_refl _), <- HS2.out, <- HPS.out] at HX
      obtain ⟨o', fh', ft', hR, hO1, hO2⟩ := HX.out.row
      exact ⟨by rw [HID.out.1, HID.out.2, HNT.out.1, HNT.out.2], o', hO1, (HOW.out.mono (T := fun k => o k ≠ 0) (fun _ _ e => by omega)).trans' HX.out.only (fun _ _ e => e.1), _, _, _, _, _, _, _, _, _, hR⟩
     clear hlt
     go_wp2
     exact Zc.out
theorem ZcR {s : St} {hz : Nat} (h : Z2v s hz) : Zn s.L hz s.T = [] /\ Z0x s.L hz [] s.I = [] /\ Z0D s hz = s := by
 have h1 : Zn s.L hz s.T = [] := by
  unfold Zn
  rw [List.filter_eq_nil_iff.2 (fun t ht => by unfold Z14; rw [h.1 t ht]; decide)]
  rfl
 have hg : ∀ x ∈ s.I, Z1l s.L hz [] x = false := fun x hx => by
  unfold Z1l
  rw [h.2 x hx]
  simp
 have h2 : Z0x s.L hz [] s.I = [] := by
  unfold Z0x
  rw [List.filter_eq_nil_iff.2 (fun x hx => by rw [hg x hx]; decide)]
  rfl
 refine ⟨h1, h2, ?_⟩
 unfold Z0D
 rw [h1, h2]
 show Z0e s hz = s
 unfold Z0e
 rw [h1, List.filter_eq_self.2 (fun t ht => by unfold Z14; rw [h.1 t ht]; rfl), List.filter_eq_self.2 (fun x hx => by rw [hg x hx]; rfl)]
theorem Z78 {w : World} {sb hz N : Nat} {o : Nat -> Nat} {s : St} (h : Zm w sb o s) (hh : Z19 s hz) (hlv : Z2v s hz) (hL : s.L.length < 1000000000) (hN : ∀ x y, s.sn x = some y -> x <= N) (hN2 : N <= 2000000) (hTl : s.T.length <= 1000) (hIl : s.I.length <= 1000) :
  Calls Tryz.prog 137 #[ptrV sb] w (fun e w' => e = .returned (.int .i64 0) /\ Z0E w sb o s w') := by
 obtain ⟨h1, h2, h3⟩ := ZcR hlv
 have := Z7r h hh hL hN hN2 hTl hIl (by rw [h1]; exact List.nodup_nil) (by rw [h1]; intro id x; cases x) (fun k x => by rw [h1] at x; exact absurd x (Nat.not_lt_zero _))
 rw [h3, h1, h2] at this
 exact this
theorem Z9l {w0 : Z01} {w : World} {sb hz N : Nat} {K : Nat -> Prop} {s : St} (h : Zw w0 w sb K s) (hh : Z19 s hz) (hlv : Z2v s hz) (hL : s.L.length < 1000000000) (hN : ∀ x y, s.sn x = some y -> x <= N) (hN2 : N <= 2000000) (hTl : s.T.length <= 1000) (hIl : s.I.length <= 1000) :
  Calls Tryz.prog 137 #[ptrV sb] w (fun e w' => e = .returned (.int .i64 0) /\ ToB w0 w sb K s w') := by
 have hB := h
 obtain ⟨⟨o, h1, h2, h3, h4⟩, _⟩ := h
 refine (Z78 h1 hh hlv hL hN hN2 hTl hIl).mono ?_
 rintro e w' ⟨rfl, hst⟩
 exact ⟨rfl, hB.call (Z13 h1 h2 h3 h4 hst)⟩
theorem Z7V {w0 : Z01} {w : World} {sb : Nat} {K : Nat -> Prop} {s : St} {t : TE} (h : Zw w0 w sb K s) (hT : s.T = [t]) (hI : s.I.length <= 1000) :
  Calls Tryz.prog 23 #[ptrV sb] w (Z2Z w t (ZQ s.L t.id s.I)) := by
 obtain ⟨⟨o, h1, _⟩, _⟩ := h
 exact Z5P h1 hT hI
theorem ZhP : Z05 Tryz.prog 79 200 1 8 := Z05.mk' (.pointer none) Tryz.underlying79 (by kernel_rfl) rfl (by decide)
def ZbZ (w0 : Z01) (w : World) (sb rb ps : Nat) (s : St) (tid n k i : Nat) (known : Bool) (ids : List Nat) (D : List (Int × Int)) (q : Nat) : Prop := ∃ jr jb cj vi vd, Z0i w0 w sb rb ps s tid n k i known ids D jr jb cj vi vd /\ Zw w0 w sb (fun k => BrK rb jr jb vi vd k ∨ k = q) s
theorem ZcS {w0 : Z01} {w2 w4 d1 d2 d3 w9 : World} {sb rb r2 q ps tid jb : Nat} {s : St} {v : Value} (hl : Zw w0 w2 sb (fun k => k = rb ∨ k = q ∨ k = r2) s) (hr : w0.w.heap.size <= rb /\ w0.w.heap.size <= r2 /\ rb ≠ r2) (hqn : w0.w.heap.size <= q) (ho4 : Z0 (fun k => k = rb) w2 w4) (hb4 : w4.heap[rb]? = some (.cells #[ptrV sb, .bool true, .slice none 0 0, .int .i64 (ps : Int)] 81 (0, 0)))
  (hq1 : Quiet w4 d1) (hj : d1.heap[jb]? = some (.cells #[.int .u64 (tid : Int), .int .i64 0, .slice none 0 0, .bool false, .int .i64 0, .int .i64 0, .slice none 0 0] 202 (0, 0))) (hjn : w4.heap.size <= jb) (hq2 : Quiet d1 d2) (hg : ZW d2 d3 200 1 (.slice none 0 0) v (0 + 1) ([] ++ [ptrV jb]))
  (ho9 : Z0 (fun k => k = rb ∨ k = r2) d3 w9) (hb9 : w9.heap[rb]? = some (.cells #[ptrV sb, .bool true, v, .int .i64 (ps : Int)] 81 (0, 0))) : ZbZ w0 w9 sb rb ps s tid 0 0 0 false [] [] q := by
 have hown := hg.own
 rcases ZJ hown with ⟨_, e⟩ | ⟨jr, cj, rfl, hc1, hc2⟩
 ·omega
 obtain ⟨cs, hcs⟩ := Zj hown (k := jr) rfl
 have q3 : Quiet d2 d3 := hg.only.mono (fun k _ e => by cases e)
 have z4 := ho4.size
 have z1 := hq1.size
 have z2 := hq2.size
 have z3 := q3.size
 have hjr : d2.heap.size <= jr := by
  rcases hg.loc with y | y
  ·cases y
  ·have e : (Value.slice (some ⟨jr, 0, none⟩) (0 + 1) cj).ownBlock = some jr := rfl
   rw [y] at e
   injection e with e
   omega
 have hlb := Z2 hb4
 have hlr2 := hl.lt (Or.inr (Or.inr rfl) : r2 = rb ∨ r2 = q ∨ r2 = r2)
 have hj3 := q3.get (hq2.get hj (fun x => x)) (fun x => x)
 have hjl := Z2 hj
 have hj9 := ho9.get hj3 (fun e => by rcases e with e | e <;> omega)
 have hjr9 := ho9.get hcs (fun e => by rcases e with e | e <;> omega)
 have hc0 := hown.cells (by rfl) 0 (ptrV jb) rfl
 rw [Zq, Nat.zero_add, Z1 hcs] at hc0
 have hwhole : Z0 (fun k => k = rb ∨ k = r2) w2 w9 := ((((ho4.mono (fun k _ e => Or.inl e)).trans' hq1 (fun _ _ x => x.elim)).trans' hq2 (fun _ _ x => x.elim)).trans' q3 (fun _ _ x => x.elim)).trans ho9
 have hs9 := ho9.size
 have hQ : Zw w0 w9 sb (fun k => BrK rb jr jb (.slice none 0 0) (.slice none 0 0) k ∨ k = q) s := by
  refine hl.turnTo (hwhole.mono (fun k _ e => by rcases e with e | e; exact Or.inl e; exact Or.inr (Or.inr e))) (fun k e => by rcases e with e | e | e <;> omega) (fun k e => ?_)
  rcases e with (e | e | e | e | e) | e
  ·exact Or.inl (Or.inl e)
  ·have := Z2 hjr9; exact Or.inr ⟨by omega, by omega⟩
  ·have := Z2 hj9; exact Or.inr ⟨by omega, by omega⟩
  ·cases e
  ·cases e
  ·exact Or.inl (Or.inr (Or.inl e))
 refine ⟨jr, jb, cj, .slice none 0 0, .slice none 0 0, ⟨hQ.mono (fun k e => Or.inl e), ⟨hb9⟩, ?_, ⟨hj9⟩, World.ownsRow_nil _ _ _ _, World.ownsRow_nil _ _ _ _, fun k e => ?_, by omega⟩, hQ⟩
 ·obtain ⟨l⟩ := cs
  rcases l with _ | ⟨x, l⟩
  ·simp at hc0
  ·simp at hc0
   subst hc0
   exact ⟨l, hjr9⟩
 ·rcases e with e | e | e | e | e
  ·omega
  ·have := hl.quiet.size; omega
  ·have := hl.quiet.size; omega
  ·cases e
  ·cases e
theorem ZcT {w0 : Z01} {w : World} {sb rb q ps hz N : Nat} {s : St} {t : TE} {vj : Value} {obj : Obj} (hl : Zw w0 w sb (fun k => k = rb ∨ k = q) s) (hb : Z4a w rb sb false vj ps) (hr : w0.w.heap.size <= rb /\ w0.w.heap.size <= q /\ rb ≠ q) (hqo : w.heap[q]? = some obj) (hT : s.T = [t]) (hI : s.I.length <= 1000) (hh : Z19 s hz) (hlv : Z2v s hz) (hL : s.L.length < 1000000000) (hN : ∀ x y, s.sn x = some y -> x <= N) (hN2 : N <= 2000000) :
  Calls Tryz.prog 97 #[ptrV rb] w (fun e w' => e = .returned (.agg #[.int .i64 0, .int .u64 0, .int .u64 0, .int .i64 0]) /\ ZbZ w0 w' sb rb ps s t.id 0 0 0 false [] [] q /\ w'.heap[q]? = some obj) := by
 obtain ⟨Z8, Z6⟩ : ∃ Z8 : Ending -> World -> Prop, (fun e w' => e = .returned (.agg #[.int .i64 0, .int .u64 0, .int .u64 0, .int .i64 0]) /\ ZbZ w0 w' sb rb ps s t.id 0 0 0 false [] [] q /\ w'.heap[q]? = some obj) = Z8 := ⟨_, rfl⟩
 rw [Z6]
 have Zb := zh Z6
 have hq : Quiet w (w.alloc (.cells #[.int .i64 0, .int .u64 0, .int .u64 0, .int .i64 0] 126)) := (Z0.refl _ _).alloc _
 have h2 := Z5 w (.cells #[.int .i64 0, .int .u64 0, .int .u64 0, .int .i64 0] 126)
 obtain ⟨r2, hr2⟩ : ∃ r2, w.heap.size = r2 := ⟨_, rfl⟩
 rw [hr2] at h2
 have HR2 := zh hr2
 have hbl := Z2 hb.box
 have hzl := hl.quiet.size
 have hlq := Z2 hqo
 have HRR : Hid (w0.w.heap.size <= rb /\ w0.w.heap.size <= r2 /\ rb ≠ r2 /\ w0.w.heap.size <= q /\ rb ≠ q /\ q ≠ r2) := ⟨hr.1, by omega, by omega, hr.2.1, hr.2.2, by omega⟩
 have HL1 : Hid (Zw w0 (w.alloc (.cells #[.int .i64 0, .int .u64 0, .int .u64 0, .int .i64 0] 126)) sb (fun k => k = rb ∨ k = q ∨ k = r2) s) := (hl.quietly hq).mono (fun k e => by
   rcases e with e | e | e
   · exact Or.inl (Or.inl e)
   · exact Or.inl (Or.inr e)
   · exact Or.inr ⟨by omega, by have := Z2 h2; omega⟩)
 have hb1 := hq.get hb.box (fun x => x)
 have HB1 := zh hb1
 have H21 := zh h2
 have HQ1 := zh (hq.get hqo (fun x => x))
 have HQ := zh hq
 have HTI := zh (And.intro hT hI)
 have HPR := zh (Z9l HL1.out hh hlv hL hN hN2 (by rw [hT]; show 1 <= 1000; omega) hI)
 have b0 := Z1 hb1 0
 simp only [zGA, zGS, zGZ] at b0
 have lb1 := Z2 hb1
 clear Z6 hl hb hr hqo hT hI hh hlv hL hN hN2 hzl hlq
 go_enter Tryz.func97, Tryz.ntmps97
 go_upto_region 1 with fail
 (try rw [hr2])
 generalize w.alloc (.cells #[.int .i64 0, .int .u64 0, .int .u64 0, .int .i64 0] 126) = w1 at *
 clear hq h2 hr2 hb1
 go_wp2_with fail
 refine HPR.out.mono ?_
 rintro e w2 ⟨rfl, hl2⟩
 have HL2 := zh hl2.st
 have HO2 := zh hl2.2
 have hb2 := hl2.2.get HB1.out (fun x => x.2 (Or.inl rfl))
 have HB2 := zh hb2
 have H22 := zh (hl2.2.get H21.out (fun x => x.2 (Or.inr (Or.inr rfl))))
 have HQ2 := zh (hl2.2.get HQ1.out (fun x => x.2 (Or.inr (Or.inl rfl))))
 have HBK := zh (Z7V HL2.out HTI.out.1 HTI.out.2)
 have b0 := Z1 hb2 0
 simp only [zGA, zGS, zGZ] at b0
 have lb2 := Z2 hb2
 clear hl2 hb2 HPR lb1
 go_wp2_with fail
 refine HBK.out.mono ?_
 rintro e w3 ⟨b, cap, A, c, v, rfl, hO, _⟩
 have HO3 := zh hO
 have hb3 := hO.quiet.get HB2.out (fun x => x)
 have c1 := Z1 hb3 1
 have c2 := Z1 hb3 2
 have cf := fun o => Z7 hb3 o
 simp only [zGA, zGS, zGZ] at c1 c2
 have lb3 := Z2 hb3
 have HB4 : Hid (((w3.setCell ⟨rb, 1, none⟩ (.bool true)).setCell ⟨rb, 2, none⟩ (.slice none 0 0)).heap[rb]? = some (.cells #[ptrV sb, .bool true, .slice none 0 0, .int .i64 (ps : Int)] 81 (0, 0))) := by
  show _ = _
  rw [Zf (Zf hb3 _ _) _ _]
  rfl
 have HO4 : Hid (Z0 (fun k => k = rb) w3 ((w3.setCell ⟨rb, 1, none⟩ (.bool true)).setCell ⟨rb, 2, none⟩ (.slice none 0 0))) := ((Z0.refl (fun k => k = rb) w3).setCell (p := ⟨rb, 1, none⟩) (fun _ => rfl) _).setCell (p := ⟨rb, 2, none⟩) (fun _ => rfl) _
 clear hO hb3 HBK lb2 b0
 go_upto_region 4 with fail
 generalize (w3.setCell ⟨rb, 1, none⟩ (.bool true)).setCell ⟨rb, 2, none⟩ (.slice none 0 0) = w4 at *
 clear c1 c2 cf lb3
 have HW24 : Hid (Z0 (fun k => k = rb) w2 w4) := (HO3.out.quiet.mono (fun _ _ x => x.elim)).trans HO4.out
 have hnb : b ≠ rb := fun e => by have := HO3.out.new; have := Z2 HB2.out; omega
 obtain ⟨t0, t1, t2, t3, t4⟩ := HO3.out.cells
 have t0 := HO4.out.cell t0 hnb
 have t1 := HO4.out.cell t1 hnb
 have t2 := HO4.out.cell t2 hnb
 have t3 := HO4.out.cell t3 hnb
 have t4 := HO4.out.cell t4 hnb
 have lb4 := Ze t0
 dsimp only at lb4
 have hqa : Quiet w4 (w4.alloc (.cells #[.int .u64 (t.id : Int), .string t.name, .slice A t.cols.length c, .int .u64 (t.xmin : Int), .int .u64 (t.xmax : Int)] 98)) := (Z0.refl _ _).alloc _
 have hba := Z5 w4 (.cells #[.int .u64 (t.id : Int), .string t.name, .slice A t.cols.length c, .int .u64 (t.xmin : Int), .int .u64 (t.xmax : Int)] 98)
 obtain ⟨r7, hr7⟩ : ∃ r7, w4.heap.size = r7 := ⟨_, rfl⟩
 rw [hr7] at hba
 have HQA := zh hqa
 have HBA := zh hba
 have HR7 := zh hr7
 clear hba
 go_wp2
 refine wp_loop_rounds 2 ?_
 rw [rounds_succ]
 go_wp2_with fail
 (try rw [hr7])
 generalize w4.alloc (.cells #[.int .u64 (t.id : Int), .string t.name, .slice A t.cols.length c, .int .u64 (t.xmin : Int), .int .u64 (t.xmax : Int)] 98) = w5 at *
 clear hqa hr7 t0 t1 t2 t3 t4 lb4
 have HS7 : Hid (∀ W, Quiet w5 W -> (fun w' => w'.cell? ⟨rb, 2, none⟩ = some (.slice none 0 0) /\ w'.cell? ⟨r7, 0, none⟩ = some (.int .u64 (t.id : Int))) W) := fun W hq => ⟨by rw [Z1 (hq.get (HQA.out.get HB4.out (fun x => x)) (fun x => x))]; rfl, by rw [Z1 (hq.get HBA.out (fun x => x))]; rfl⟩
 refine Z0V (S := (fun w' => w'.cell? ⟨rb, 2, none⟩ = some (.slice none 0 0) /\ w'.cell? ⟨r7, 0, none⟩ = some (.int .u64 (t.id : Int)))) (by kernel_rfl) (by kernel_rfl) (by simp) (HS7.out _ ((Z0.refl _ _).drew)) (fun Z3 => ?_)
 simp only [List.pop_toArray, List.dropLast, List.size_toArray, List.length_cons, List.length_nil, Nat.reduceAdd, Nat.reduceSub]
 have q0 : Quiet w5 w5.drew := (Z0.refl _ _).drew
 generalize w5.drew = d0 at q0 Z3 ⊢
 refine zT 0 ?_
 refine zT 1 ?_
 refine zT 2 ?_
 refine zT 3 ?_
 refine zT 4 ?_
 refine zT 5 ?_
 refine zT 6 ?_
 refine zT 7 ?_
 refine zR 8 ?_
 intro K hK
 go_simp
 refine hK.out _ _ ?_ (fun Z3 => ?_)
 ·exact HS7.out _ (q0.alloc _)
 clear hK K
 (try simp only [Act.put, zPA, zPZ, zPS])
 have q1 : Quiet w5 (d0.alloc (.cells #[.int .u64 (t.id : Int), .int .i64 0, .slice none 0 0, .bool false, .int .i64 0, .int .i64 0, .slice none 0 0] 202)) := q0.alloc _
 have hj1 := Z5 d0 (.cells #[.int .u64 (t.id : Int), .int .i64 0, .slice none 0 0, .bool false, .int .i64 0, .int .i64 0, .slice none 0 0] 202)
 have hjn := q0.size
 obtain ⟨jb, hjb⟩ : ∃ jb, d0.heap.size = jb := ⟨_, rfl⟩
 rw [hjb] at hj1 hjn ⊢
 generalize d0.alloc (.cells #[.int .u64 (t.id : Int), .int .i64 0, .slice none 0 0, .bool false, .int .i64 0, .int .i64 0, .slice none 0 0] 202) = d1 at *
 clear hjb
 refine zR 9 ?_
 intro K hK
 go_simp
 refine hK.out _ _ ?_ (fun Z3 => ?_)
 ·exact HS7.out _ (q1.alloc _)
 clear hK K
 (try simp only [Act.put, zPA, zPZ, zPS])
 have q12 : Quiet d1 (d1.alloc (.cells #[ptrV jb] 200)) := (Z0.refl _ _).alloc _
 have hrd := Rd.one d1 (ptrV jb) 200 (0, 0) (S := fun _ => True) trivial
 obtain ⟨bu, hbu⟩ : ∃ bu, d1.heap.size = bu := ⟨_, rfl⟩
 rw [hbu] at hrd
 (try rw [hbu])
 generalize d1.alloc (.cells #[ptrV jb] 200) = d2 at *
 clear hbu
 have q2 := q1.trans q12
 refine zR 10 ?_
 intro K hK
 refine Z1T ZhP rfl (.tmp 37) (.tmp 42) rfl rfl (World.ownsRow_nil _ _ _ _) rfl hrd (Z32 [jb]) (by unfold maxLen; omega) (by omega) ?_
 intro v3 d3 hg3
 obtain ⟨A3, c3, rfl, _, _, _⟩ := Z9 (show World.ownsRow d3 0 200 1 v3 1 [ptrV jb] from hg3.own)
 have q3 : Quiet w5 d3 := q2.trans (hg3.only.mono (fun k _ e => by cases e))
 refine hK.out _ _ ?_ (fun Z3 => ?_)
 ·exact HS7.out _ q3
 clear hK K
 (try simp only [Act.put, zPA, zPZ, zPS])
 refine zT 11 ?_
 refine zT 12 ?_
 refine zD ?_
 refine Z29 (o := ?_) ?_ ?_
 rotate_left 1
 (focus (simp only [zGA, zGZ, zGS] <;> rfl))
 intro K hK
 have hb3 := q3.get (HQA.out.get HB4.out (fun x => x)) (fun x => x)
 have k2 := Z1 hb3 2
 have kf := fun o => Z7 hb3 o
 simp only [zGA, zGS, zGZ] at k2
 go_simp
 refine hK.out _ _ ?_
 clear hK K
 (try dsimp only [Act.put])
 have HG := zh (And.intro q1 (And.intro hj1 (And.intro hjn (And.intro q12 hg3))))
 have HB9 : Hid ((d3.setCell ⟨rb, 2, none⟩ (.slice A3 1 c3)).heap[rb]? = some (.cells #[ptrV sb, .bool true, .slice A3 1 c3, .int .i64 (ps : Int)] 81 (0, 0))) := by
  show _ = _
  rw [Zf hb3]
  rfl
 have HO9 : Hid (Z0 (fun k => k = rb) d3 (d3.setCell ⟨rb, 2, none⟩ (.slice A3 1 c3))) := (Z0.refl (fun k => k = rb) d3).setCell (p := ⟨rb, 2, none⟩) (fun _ => rfl) _
 have HQ3 := zh q3
 clear Z3 q0 q1 q2 q3 q12 hg3 hrd hj1 hjn hb3 k2 kf HS7
 generalize d3.setCell ⟨rb, 2, none⟩ (.slice A3 1 c3) = w8 at *
 have HD38 : Hid (Z0 (fun k => k = rb) w2 w8) := ((HW24.out.trans' HQA.out (fun _ _ x => x.elim)).trans' HQ3.out (fun _ _ x => x.elim)).trans HO9.out
 have h28 := HD38.out.get H22.out (fun e => HRR.out.2.2.1 e.symm)
 obtain ⟨e0, e1, e2, e3⟩ := zC4 h28
 have ef := fun o => Z7 h28 o
 have hl8 := Z2 h28
 have HX := zh (Z0g h28 (.int .i64 0) (.int .u64 0) (.int .u64 0) (.int .i64 0))
 have ho4 := Z02 w8 r2 (.int .i64 0) (.int .u64 0) (.int .u64 0) (.int .i64 0)
 have Zc : Hid (Z8 (.returned (.agg #[.int .i64 0, .int .u64 0, .int .u64 0, .int .i64 0])) (fourSet w8 r2 (.int .i64 0) (.int .u64 0) (.int .u64 0) (.int .i64 0))) := by
  rw [<- Zb.out]
  have hrr := HRR.out
  refine ⟨rfl, ZcS HL2.out ⟨hrr.1, hrr.2.1, hrr.2.2.1⟩ hrr.2.2.2.1 HW24.out HB4.out (HQA.out.trans HG.out.1) HG.out.2.1 (Nat.le_trans HQA.out.size HG.out.2.2.1) HG.out.2.2.2.1 HG.out.2.2.2.2 ((HO9.out.mono (fun k _ e => Or.inl e)).trans (ho4.mono (fun k _ e => Or.inr e))) (ho4.get HB9.out (fun e => hrr.2.2.1 e)), ?_⟩
  exact ho4.get (HD38.out.get HQ2.out (fun e => hrr.2.2.2.2.1 e.symm)) (fun e => hrr.2.2.2.2.2 e)
 unfold fourSet at HX Zc
 clear ho4 h28
 go_wp2
 rw [rounds_succ]
 go_wp2
 exact bodyPost_ret (Z00 Tryz.results97 _ _ r2 _ _ (0, 0) _ (by rfl) HX.out Tryz.underlying126 rfl Z1k) (by rfl) Zc.out
section
variable {w0 : Z01} {w w' : World} {sb rb ps tid n k i n' k' i' : Nat} {s : St} {known known' : Bool} {ids : List Nat} {D D' : List (Int × Int)} {jr jb cj : Nat} {vi vd vd' : Value}
theorem Z0i.apart (h : Z0i w0 w sb rb ps s tid n k i known ids D jr jb cj vi vd) : rb ≠ jr /\ rb ≠ jb /\ jr ≠ jb /\ (∀ k, vd.ownBlock = some k -> k ≠ rb /\ k ≠ jr /\ k ≠ jb /\ vi.ownBlock ≠ some k) /\ (∀ k, vi.ownBlock = some k -> k ≠ rb /\ k ≠ jr /\ k ≠ jb) := by
 obtain ⟨cs, hr⟩ := h.row
 refine ⟨Za h.br.box hr (by decide), Za h.br.box h.job.box (by decide), Za hr h.job.box (by decide), fun k e => ?_, fun k e => ?_⟩
 ·obtain ⟨c, hh⟩ := Zj h.dead e
  refine ⟨Za hh h.br.box (by decide), Za hh hr (by decide), Za hh h.job.box (by decide), fun e2 => ?_⟩
  obtain ⟨c2, hh2⟩ := Zj h.idx e2
  exact Za hh hh2 (by decide) rfl
 ·obtain ⟨c, hh⟩ := Zj h.idx e
  exact ⟨Za hh h.br.box (by decide), Za hh hr (by decide), Za hh h.job.box (by decide)⟩
theorem Z0i.turned (h : Z0i w0 w sb rb ps s tid n k i known ids D jr jb cj vi vd) (ho : Z0 (fun k => k = jb ∨ vd.ownBlock = some k) w w') (hj : ZeV w' jb tid n' k' i' known' vi vd') (hd : w'.ownsRow 0 48 2 vd' D'.length (ZM D')) (hloc : ∀ k, vd'.ownBlock = some k -> vd.ownBlock = some k ∨ w.heap.size <= k) :
  Z0i w0 w' sb rb ps s tid n' k' i' known' ids D' jr jb cj vi vd' := by
 obtain ⟨a1, a2, a3, a4, a5⟩ := h.apart
 obtain ⟨cs, hr⟩ := h.row
 have hq := h.law.quiet.size
 refine ⟨h.law.turnTo (ho.mono (fun k _ e => by rcases e with e | e; exact Or.inr (Or.inr (Or.inl e)); exact Or.inr (Or.inr (Or.inr (Or.inr e))))) h.new (fun k e => ?_), ⟨ho.get h.br.box (fun e => by rcases e with e | e; exact a2 e; exact (a4 _ e).1 rfl)⟩, ⟨cs, ho.get hr (fun e => by rcases e with e | e; exact a3 e; exact (a4 _ e).2.1 rfl)⟩, hj, Z4 h.idx ho (fun k e x => by rcases x with x | x; exact (a5 k e).2.2 x; exact (a4 k x).2.2.2 e), hd, fun k e => ?_, h.cap⟩
 ·rcases e with e | e | e | e | e
  ·exact Or.inl (Or.inl e)
  ·exact Or.inl (Or.inr (Or.inl e))
  ·exact Or.inl (Or.inr (Or.inr (Or.inl e)))
  ·exact Or.inl (Or.inr (Or.inr (Or.inr (Or.inl e))))
  ·rcases hloc k e with x | x
   ·exact Or.inl (Or.inr (Or.inr (Or.inr (Or.inr x))))
   ·obtain ⟨c, hh⟩ := Zj hd e
    exact Or.inr ⟨x, Z2 hh⟩
 ·rcases e with e | e | e | e | e
  ·exact h.new k (Or.inl e)
  ·exact h.new k (Or.inr (Or.inl e))
  ·exact h.new k (Or.inr (Or.inr (Or.inl e)))
  ·exact h.new k (Or.inr (Or.inr (Or.inr (Or.inl e))))
  ·rcases hloc k e with x | x
   ·exact h.new k (Or.inr (Or.inr (Or.inr (Or.inr x))))
   ·omega
theorem Z0i.quietly (h : Z0i w0 w sb rb ps s tid n k i known ids D jr jb cj vi vd) (hq : Quiet w w') : Z0i w0 w' sb rb ps s tid n k i known ids D jr jb cj vi vd :=
 h.turned (hq.mono (fun _ _ x => x.elim)) ⟨hq.get h.job.box (fun x => x)⟩ (Z4 h.dead hq (fun _ _ x => x)) (fun k e => Or.inl e)
end
theorem Z1D {w : World} {b : Nat} {c0 c1 c2 c3 c4 c5 c6 : Value} {t : TypeId} (h : w.heap[b]? = some (.cells #[c0, c1, c2, c3, c4, c5, c6] t (0, 0))) (v : Value) : (w.setCell ⟨b, 4, none⟩ v).heap[b]? = some (.cells #[c0, c1, c2, c3, v, c5, c6] t (0, 0)) /\ (w.setCell ⟨b, 6, none⟩ v).heap[b]? = some (.cells #[c0, c1, c2, c3, c4, c5, v] t (0, 0)) /\ (w.setCell ⟨b, 3, none⟩ v).heap[b]? = some (.cells #[c0, c1, c2, v, c4, c5, c6] t (0, 0)) /\ (w.setCell ⟨b, 1, none⟩ v).heap[b]? = some (.cells #[c0, v, c2, c3, c4, c5, c6] t (0, 0)) /\ (w.setCell ⟨b, 2, none⟩ v).heap[b]? = some (.cells #[c0, c1, v, c3, c4, c5, c6] t (0, 0)) /\ (w.setCell ⟨b, 5, none⟩ v).heap[b]? = some (.cells #[c0, c1, c2, c3, c4, v, c6] t (0, 0)) := by
 refine ⟨?_, ?_, ?_, ?_, ?_, ?_⟩ <;> (rw [Zf h]; rfl)
theorem Zgq {w0 : Z01} {w : World} {sb id : Nat} {K : Nat -> Prop} {s : St} {H : List (List (Option Tup))} (h : Zw w0 w sb K s) (hid : U64 id) (hH : s.hs id = some H) :
  Calls Tryz.prog 98 #[ptrV sb, .int .u64 (id : Int)] w (fun e w' => e = .returned (.int .i64 (H.length : Int)) /\ Quiet w w') := by
 obtain ⟨⟨o, h1, _⟩, _⟩ := h
 exact ZcJ h1 hid hH
theorem Z8R {w0 : Z01} {w : World} {sb id hz k N : Nat} {K : Nat -> Prop} {s : St} {H : List (List (Option Tup))} {T : List (Option Tup)} (h : Zw w0 w sb K s) (hid : U64 id) (hH : s.hs id = some H) (hT : H[k]? = some T) (hnum : Z2m H) (hh : Z19 s hz) (hL : s.L.length < 1000000000) (hN : ∀ x y, s.sn x = some y -> x <= N) (hN2 : N <= 2000000) (hlen : (Zl (k : Int) T T.length).length <= 1000000) :
  Calls Tryz.prog 99 #[ptrV sb, .int .u64 (id : Int), .int .i64 (k : Int)] w (Z1b w ((Zl (k : Int) T T.length).filter (Z0b s.L H hz))) := by
 obtain ⟨⟨o, h1, _⟩, _⟩ := h
 exact ZbP h1 hid hH hT hnum hh hL hN hN2 hlen
theorem Z5s {w0 : Z01} {w w1 d2 w4 w5 w6 w9 : World} {sb rb ps tid n n1 k k1 r2 : Nat} {s : St} {kn : Bool} {ids : List Nat} {D fl : List (Int × Int)} {jr jb cj : Nat} {vi vd v5 : Value} (hj : Z0i w0 w sb rb ps s tid n1 k1 0 kn ids D jr jb cj vi vd) (hr2n : w.heap.size <= r2) (h1 : Z0 (fun x => x = jb) w w1) (hq : Quiet w1 d2) (hr2l : r2 < d2.heap.size) (ho4 : Z0 (fun x => x = jb) d2 w4) (hg : ZW w4 w5 48 2 vd v5 (D.length + fl.length) (ZM D ++ ZM fl)) (ho6 : Z0 (fun x => x = jb) w5 w6) (ho9 : Z0 (fun x => x = r2) w6 w9)
  (hb6 : w6.heap[jb]? = some (.cells #[.int .u64 (tid : Int), .int .i64 (n : Int), vi, .bool true, .int .i64 (k : Int), .int .i64 ((0 : Nat) : Int), v5] 202 (0, 0))) : Z1z w0 w9 sb rb ps s tid n k 0 true ids (D ++ fl) := by
 have ap := hj.apart
 have ljb := Z2 hj.job.box
 have hown : ∀ k, v5.ownBlock = some k -> vd.ownBlock = some k ∨ w4.heap.size <= k := fun k e => by
  rcases hg.loc with y | y
  ·rw [y] at e; exact Or.inl e
  ·rw [y] at e; injection e with e; exact Or.inr (by omega)
 have z1 := h1.size
 have z2 := hq.size
 have z4 := ho4.size
 have z5 := hg.only.size
 have z6 := ho6.size
 have hvd : ∀ k, vd.ownBlock = some k -> k < w.heap.size := fun k e => by
  obtain ⟨c, hh⟩ := Zj hj.dead e
  exact Z2 hh
 have hd9 : w9.ownsRow 0 48 2 v5 (D ++ fl).length (ZM (D ++ fl)) := by
  rw [List.length_append, Z4x]
  refine Z4 (Z4 hg.own ho6 (fun k e x => ?_)) ho9 (fun k e x => ?_)
  ·rcases hown k e with y | y
   ·exact (ap.2.2.2.1 k y).2.2.1 x
   ·omega
  ·rcases hown k e with y | y
   ·have := hvd k y; omega
   ·omega
 have hwhole : Z0 (fun k => k = jb ∨ vd.ownBlock = some k) w w9 := (((((h1.mono (fun _ _ e => Or.inl e)).trans (hq.mono (fun _ _ x => x.elim))).trans (ho4.mono (fun _ _ e => Or.inl e))).trans (hg.only.mono (fun _ _ e => Or.inr e))).trans (ho6.mono (fun _ _ e => Or.inl e))).trans' ho9 (fun k hk e => by omega)
 exact ⟨jr, jb, cj, vi, v5, hj.turned hwhole ⟨ho9.get hb6 (fun e => by omega)⟩ hd9 (fun k e => (hown k e).imp (fun x => x) (fun x => by omega))⟩
theorem ZcU {w0 : Z01} {w : World} {sb rb ps tid n k hz N : Nat} {s : St} {H : List (List (Option Tup))} {T : List (Option Tup)} {ids : List Nat} {D : List (Int × Int)} (h : Z1z w0 w sb rb ps s tid n k 0 true ids D) (hn : H.length = n) (hk : k < n) (hk2 : n <= 256) (hid : U64 tid) (hH : s.hs tid = some H) (hT : H[k]? = some T) (hnum : Z2m H) (hh : Z19 s hz) (hL : s.L.length < 1000000000) (hN : ∀ x y, s.sn x = some y -> x <= N) (hN2 : N <= 2000000) (hlen : (Zl (k : Int) T T.length).length <= 1000) (hD : D.length <= 1000000) :
  Calls Tryz.prog 51 #[ptrV rb] w (fun e w' => Z1e 1 e /\ Z1z w0 w' sb rb ps s tid n (k + 1) 0 true ids (D ++ (Zl (k : Int) T T.length).filter (Z0b s.L H hz))) := by
 obtain ⟨jr, jb, cj, vi, vd, h⟩ := h
 obtain ⟨fl, hfl⟩ : ∃ fl, (Zl (k : Int) T T.length).filter (Z0b s.L H hz) = fl := ⟨_, rfl⟩
 have hfl2 : fl.length <= 1000 := by rw [<- hfl]; exact Nat.le_trans (List.length_filter_le _ _) hlen
 obtain ⟨Z8, Z6⟩ : ∃ Z8 : Ending -> World -> Prop, (fun e w' => Z1e 1 e /\ Z1z w0 w' sb rb ps s tid n (k + 1) 0 true ids (D ++ (Zl (k : Int) T T.length).filter (Z0b s.L H hz))) = Z8 := ⟨_, rfl⟩
 rw [Z6]
 rw [hfl] at Z6
 have Zb := zh Z6
 have HLW : Hid (∀ W, Z0 (fun x => x = jb) w W -> Zw w0 W sb (BrK rb jr jb vi vd) s) := fun W ho => h.law.turnTo (ho.mono (fun x _ e => Or.inr (Or.inr (Or.inl e)))) h.new (fun x e => Or.inl e)
 have HGA : Hid (∀ W, Z0 (fun x => x = jb) w W -> Calls Tryz.prog 99 #[ptrV sb, .int .u64 (tid : Int), .int .i64 (k : Int)] W (Z1b W fl)) := fun W ho => by
  rw [<- hfl]
  exact Z8R (HLW.out W ho) hid hH hT hnum hh hL hN hN2 (by omega)
 have hq : Quiet w (w.alloc (.cells #[.int .i64 0, .int .u64 0, .int .u64 0, .int .i64 0] 126)) := (Z0.refl _ _).alloc _
 have h2 := Z5 w (.cells #[.int .i64 0, .int .u64 0, .int .u64 0, .int .i64 0] 126)
 obtain ⟨r2, hr2⟩ : ∃ r2, w.heap.size = r2 := ⟨_, rfl⟩
 rw [hr2] at h2
 have HR2 := zh hr2
 have HJ := zh h
 have hcj := h.cap
 unfold maxLen at hcj
 clear h Z6 hfl hlen hH hT hnum hh hL hN hN2 hid
 go_enter Tryz.func51, Tryz.ntmps51
 go_upto_block 0 with (fail)
 (try rw [hr2])
 generalize w.alloc (.cells #[.int .i64 0, .int .u64 0, .int .u64 0, .int .i64 0] 126) = w1 at *
 have HQ1 := zh hq
 have H21 := zh h2
 have h1 := HJ.out.quietly hq
 obtain ⟨b0, b1, b2⟩ := zC3 h1.br.box
 obtain ⟨cs, hrow⟩ := h1.row
 have j0 : w1.cell? ⟨jr, 0, none⟩ = some (ptrV jb) := by rw [Z1 hrow]; rfl
 have k0 := Z1 h1.job.box 0
 have k3 := Z1 h1.job.box 3
 simp only [zGA, zGS, zGZ] at k0 k3
 have lb := Z2 h1.br.box
 have lr := Z2 hrow
 have ljb := Z2 h1.job.box
 clear hq h2 hr2 hrow
 have HO1 : Hid (Z0 (fun x => x = jb) w w1) := HQ1.out.mono (fun _ _ x => x.elim)
 have HJ1 := zh h1
 clear h1
 go_upto_region 12 with fail
 have HS12 : Hid (∀ W, Quiet w1 W -> (fun w' => w'.cell? ⟨jb, 4, none⟩ = some (.int .i64 (k : Int)) /\ w'.cell? ⟨jb, 1, none⟩ = some (.int .i64 (n : Int))) W) := fun W hq => by
  have b := (HJ1.out.quietly hq).job.box
  exact ⟨by rw [Z1 b]; rfl, by rw [Z1 b]; rfl⟩
 refine zH HS12 ((Z0.refl _ _).drew) (fun Z3 => ?_)
 have q0 : Quiet w1 w1.drew := (Z0.refl _ _).drew
 generalize w1.drew = d0 at q0 Z3 ⊢
 refine zT 0 ?_
 refine zT 1 ?_
 refine zT 2 ?_
 refine zT 3 ?_
 refine zT 4 ?_
 refine zT 5 ?_
 refine zT 6 ?_
 refine zT 7 ?_
 refine zT 8 ?_
 refine zD ?_
 clear Z3
 have HQ12 : Hid (Quiet w1 d0) := q0
 have HS13 : Hid (∀ W, Quiet d0 W -> (fun w' => w'.cell? ⟨rb, 0, none⟩ = some (ptrV sb) /\ w'.cell? ⟨jb, 0, none⟩ = some (.int .u64 (tid : Int)) /\ w'.cell? ⟨jb, 4, none⟩ = some (.int .i64 (k : Int))) W) := fun W hq => by
  have hj := HJ1.out.quietly (HQ12.out.trans hq)
  have b := hj.job.box
  exact ⟨by rw [Z1 hj.br.box]; rfl, by rw [Z1 b]; rfl, by rw [Z1 b]; rfl⟩
 clear j0 lb lr ljb HS12
 go_wp2_with fail
 refine zH HS13 ((Z0.refl _ _).drew) (fun Z3 => ?_)
 have q1 : Quiet d0 d0.drew := (Z0.refl _ _).drew
 generalize d0.drew = d1 at q1 Z3 ⊢
 refine zT 0 ?_
 refine zT 1 ?_
 refine zT 2 ?_
 refine zT 3 ?_
 refine zT 4 ?_
 refine zT 5 ?_
 refine zT 6 ?_
 refine zT 7 ?_
 refine zT 8 ?_
 refine zT 9 ?_
 refine zT 10 ?_
 refine zT 11 ?_
 refine zR 12 ?_
 intro K hK
 go_simp
 go_at_call 99
 refine (HGA.out _ (HO1.out.trans' (HQ12.out.trans q1) (fun _ _ x => x.elim))).mono ?_
 rintro e d2 ⟨v2, rfl, hq2, hn2, ht2⟩
 obtain ⟨A2, c2, rfl, _, _, _⟩ := Z9 ht2
 have q2 := q1.trans hq2
 dsimp only
 refine hK.out _ _ ?_ (fun Z3 => ?_)
 ·exact HS13.out _ q2
 clear hK K
 (try simp only [Act.put, zPA, zPZ, zPS])
 refine zT 13 ?_
 refine zD ?_
 clear Z3
 have HQ3 : Hid (Quiet w1 d2) := HQ12.out.trans q2
 have HTD := zh ht2
 have HNN : Hid (∀ k, (Value.slice A2 fl.length c2).ownBlock = some k -> w1.heap.size <= k) := fun k e => Nat.le_trans (HQ12.out.trans q1).size (hn2 k e)
 have hj := HJ1.out.quietly HQ3.out
 have HJ3 := zh hj
 have c0 := Z1 hj.job.box 0
 have c4 := Z1 hj.job.box 4
 have c6 := Z1 hj.job.box 6
 have cf := fun o => Z7 hj.job.box o
 simp only [zGA, zGS, zGZ] at c0 c4 c6
 have lj := Z2 hj.job.box
 have hw1 : IntKind.i64.wrap ((k : Int) + 1) = (k : Int) + 1 := ZE _ (by omega) (by omega)
 have ho4 : Z0 (fun x => x = jb) d2 (d2.setCell ⟨jb, 4, none⟩ (.int .i64 ((k : Int) + 1))) := (Z0.refl (fun x => x = jb) d2).setCell (p := ⟨jb, 4, none⟩) (fun _ => rfl) _
 have HB4 := zh (Z1D hj.job.box (.int .i64 ((k : Int) + 1))).1
 have HO4 := zh ho4
 clear q0 q1 q2 hq2 hn2 ht2 HS13 HGA ho4 hj
 go_upto_region 15 with fail
 generalize d2.setCell ⟨jb, 4, none⟩ (.int .i64 ((k : Int) + 1)) = w4 at *
 clear c0 c4 c6 cf lj
 have ap := HJ3.out.apart
 have hd4 : w4.ownsRow 0 48 2 vd D.length (ZM D) := Z4 HJ3.out.dead HO4.out (fun k e x => (ap.2.2.2.1 k e).2.2.1 x)
 have hfl4 : Rd w4 (fun _ => True) 2 A2 fl.length (ZM fl) := by
  obtain ⟨A', c', e', _, _, hr⟩ := Z9 HTD.out
  injection e' with e1 _ e2
  subst e1 e2
  exact (hr.kept HO4.out (fun k e x => by have := HNN.out k e; have := Z2 HJ1.out.job.box; omega)).mono (fun _ _ => trivial)
 have c0 := Z1 HB4.out 0
 have c6 := Z1 HB4.out 6
 simp only [zGA, zGS, zGZ] at c0 c6
 have lj := Z2 HB4.out
 have HAP := zh ap
 clear ap
 go_wp2_with (at_builtin; refine app Z4z rfl (.tmp 104) (.tmp 105) rfl rfl hd4 rfl hfl4 (Z4y fl) (by unfold maxLen; omega) (by omega) ?_)
 intro v5 w5 hg5
 obtain ⟨A5, c5, rfl, _, _, _⟩ := Z9 hg5.own
 have HG5 := zh hg5
 have hb5 := hg5.only.get HB4.out (fun e => (HAP.out.2.2.2.1 _ e).2.2.1 rfl)
 have cf := fun o => Z7 hb5 o
 have c6 := Z1 hb5 6
 simp only [zGA, zGS, zGZ] at c6
 have lj := Z2 hb5
 have HB6 := zh (Z1D hb5 (.slice A5 (D.length + fl.length) c5)).2.1
 have HO6 : Hid (Z0 (fun x => x = jb) w5 (w5.setCell ⟨jb, 6, none⟩ (.slice A5 (D.length + fl.length) c5))) := (Z0.refl (fun x => x = jb) w5).setCell (p := ⟨jb, 6, none⟩) (fun _ => rfl) _
 clear hd4 hfl4 hg5 hb5
 go_upto_region 16 with fail
 generalize w5.setCell ⟨jb, 6, none⟩ (.slice A5 (D.length + fl.length) c5) = w6 at *
 clear c0 c6 cf lj
 have hr2' := HR2.out
 have hjl := Z2 HJ.out.job.box
 have hn2 : ¬ r2 = jb := by omega
 have h26 := HO6.out.get (HG5.out.only.get (HO4.out.get (HQ3.out.get H21.out (fun x => x)) hn2) (fun e => by obtain ⟨c, hh⟩ := Zj HJ.out.dead e; have := Z2 hh; omega)) hn2
 obtain ⟨e0, e1, e2, e3⟩ := zC4 h26
 have ef := fun o => Z7 h26 o
 have c0 := Z1 HB6.out 0
 simp only [zGA, zGS, zGZ] at c0
 have l2 := Z2 h26
 have lj := Z2 HB6.out
 have HX := zh (Z0g h26 (.int .i64 1) (.int .u64 (tid : Int)) (.int .u64 0) (.int .i64 (fl.length : Int)))
 have ho9 := Z02 w6 r2 (.int .i64 1) (.int .u64 (tid : Int)) (.int .u64 0) (.int .i64 (fl.length : Int))
 have Zc : Hid (Z8 (.returned (.agg #[.int .i64 1, .int .u64 (tid : Int), .int .u64 0, .int .i64 (fl.length : Int)])) (fourSet w6 r2 (.int .i64 1) (.int .u64 (tid : Int)) (.int .u64 0) (.int .i64 (fl.length : Int)))) := by
  rw [<- Zb.out]
  exact ⟨⟨_, _, _, rfl⟩, Z5s HJ.out (Nat.le_of_eq hr2') HO1.out HQ3.out (Nat.lt_of_lt_of_le (Z2 H21.out) HQ3.out.size) HO4.out HG5.out HO6.out ho9 HB6.out⟩
 unfold fourSet at HX Zc
 clear ho9 h26 hr2' hjl
 go_wp2
 exact bodyPost_ret (Z00 Tryz.results51 _ _ r2 _ _ (0, 0) _ (by rfl) HX.out Tryz.underlying126 rfl Z1k) (by rfl) Zc.out
theorem Zc0 {w0 : Z01} {w : World} {sb rb ps tid n k hz N : Nat} {s : St} {H : List (List (Option Tup))} {T : List (Option Tup)} {ids : List Nat} {D : List (Int × Int)} (h : Z1z w0 w sb rb ps s tid 0 k 0 false ids D) (hn : H.length = n) (hk : k < n) (hk2 : n <= 256) (hid : U64 tid) (hH : s.hs tid = some H) (hT : H[k]? = some T) (hnum : Z2m H) (hh : Z19 s hz) (hL : s.L.length < 1000000000) (hN : ∀ x y, s.sn x = some y -> x <= N) (hN2 : N <= 2000000) (hlen : (Zl (k : Int) T T.length).length <= 1000) (hD : D.length <= 1000000) :
  Calls Tryz.prog 51 #[ptrV rb] w (fun e w' => Z1e 1 e /\ Z1z w0 w' sb rb ps s tid n (k + 1) 0 true ids (D ++ (Zl (k : Int) T T.length).filter (Z0b s.L H hz))) := by
 obtain ⟨jr, jb, cj, vi, vd, h⟩ := h
 obtain ⟨fl, hfl⟩ : ∃ fl, (Zl (k : Int) T T.length).filter (Z0b s.L H hz) = fl := ⟨_, rfl⟩
 have hfl2 : fl.length <= 1000 := by rw [<- hfl]; exact Nat.le_trans (List.length_filter_le _ _) hlen
 obtain ⟨Z8, Z6⟩ : ∃ Z8 : Ending -> World -> Prop, (fun e w' => Z1e 1 e /\ Z1z w0 w' sb rb ps s tid n (k + 1) 0 true ids (D ++ (Zl (k : Int) T T.length).filter (Z0b s.L H hz))) = Z8 := ⟨_, rfl⟩
 rw [Z6]
 rw [hfl] at Z6
 have Zb := zh Z6
 have HLW : Hid (∀ W, Z0 (fun x => x = jb) w W -> Zw w0 W sb (BrK rb jr jb vi vd) s) := fun W ho => h.law.turnTo (ho.mono (fun x _ e => Or.inr (Or.inr (Or.inl e)))) h.new (fun x e => Or.inl e)
 have HGA : Hid (∀ W, Z0 (fun x => x = jb) w W -> Calls Tryz.prog 99 #[ptrV sb, .int .u64 (tid : Int), .int .i64 (k : Int)] W (Z1b W fl)) := fun W ho => by
  rw [<- hfl]
  exact Z8R (HLW.out W ho) hid hH hT hnum hh hL hN hN2 (by omega)
 have hq : Quiet w (w.alloc (.cells #[.int .i64 0, .int .u64 0, .int .u64 0, .int .i64 0] 126)) := (Z0.refl _ _).alloc _
 have h2 := Z5 w (.cells #[.int .i64 0, .int .u64 0, .int .u64 0, .int .i64 0] 126)
 obtain ⟨r2, hr2⟩ : ∃ r2, w.heap.size = r2 := ⟨_, rfl⟩
 rw [hr2] at h2
 have HR2 := zh hr2
 have HJ := zh h
 have hcj := h.cap
 unfold maxLen at hcj
 have HPG : Hid (∀ W, Quiet w W -> Calls Tryz.prog 98 #[ptrV sb, .int .u64 (tid : Int)] W (fun e w' => e = .returned (.int .i64 (n : Int)) /\ Quiet W w')) := fun W ho => by
  rw [<- hn]
  exact Zgq (h.law.same ho) hid hH
 clear h Z6 hfl hlen hH hT hnum hh hL hN hN2 hid
 go_enter Tryz.func51, Tryz.ntmps51
 go_upto_block 0 with (fail)
 (try rw [hr2])
 generalize w.alloc (.cells #[.int .i64 0, .int .u64 0, .int .u64 0, .int .i64 0] 126) = w1 at *
 have HQ1 := zh hq
 have H21 := zh h2
 have h1 := HJ.out.quietly hq
 obtain ⟨b0, b1, b2⟩ := zC3 h1.br.box
 obtain ⟨cs, hrow⟩ := h1.row
 have j0 : w1.cell? ⟨jr, 0, none⟩ = some (ptrV jb) := by rw [Z1 hrow]; rfl
 have k0 := Z1 h1.job.box 0
 have k3 := Z1 h1.job.box 3
 simp only [zGA, zGS, zGZ] at k0 k3
 have lb := Z2 h1.br.box
 have lr := Z2 hrow
 have ljb := Z2 h1.job.box
 clear hq h2 hr2 hrow
 go_upto_region 11 with fail
 have HS11 : Hid (∀ W, Quiet w1 W -> (fun w' => w'.cell? ⟨rb, 0, none⟩ = some (ptrV sb) /\ w'.cell? ⟨jb, 0, none⟩ = some (.int .u64 (tid : Int))) W) := fun W hq => by
  have hj := HJ.out.quietly (HQ1.out.trans hq)
  exact ⟨by rw [Z1 hj.br.box]; rfl, by rw [Z1 hj.job.box]; rfl⟩
 clear b1 b2
 refine zH HS11 ((Z0.refl _ _).drew) (fun Z3 => ?_)
 have q0 : Quiet w1 w1.drew := (Z0.refl _ _).drew
 generalize w1.drew = d0 at q0 Z3 ⊢
 refine zT 0 ?_
 refine zT 1 ?_
 refine zT 2 ?_
 refine zT 3 ?_
 refine zT 4 ?_
 refine zT 5 ?_
 refine zT 6 ?_
 refine zT 7 ?_
 refine zT 8 ?_
 refine zT 9 ?_
 refine zR 10 ?_
 intro K hK
 go_simp
 go_at_call 98
 refine (HPG.out _ (HQ1.out.trans q0)).mono ?_
 rintro e d2 ⟨rfl, hq2⟩
 have q2 := q0.trans hq2
 dsimp only
 refine hK.out _ _ ?_ (fun Z3 => ?_)
 ·exact HS11.out _ q2
 clear hK K
 (try simp only [Act.put, zPA, zPZ, zPS])
 refine zT 11 ?_
 refine zT 12 ?_
 refine zR 13 ?_
 intro K hK
 have hj2 := HJ.out.quietly (HQ1.out.trans q2)
 have HJ2 := zh hj2
 have k3 := Z1 hj2.job.box 3
 have kf := fun o => Z7 hj2.job.box o
 have lj2 := Z2 hj2.job.box
 have hb3 := (Z1D hj2.job.box (.bool true)).2.2.1
 have ho3 : Z0 (fun x => x = jb) d2 (d2.setCell ⟨jb, 3, none⟩ (.bool true)) := (Z0.refl (fun x => x = jb) d2).setCell (p := ⟨jb, 3, none⟩) (fun _ => rfl) _
 clear hj2
 simp only [zGA, zGS, zGZ] at k3
 go_simp
 refine hK.out _ _ ?_ (fun Z3 => ?_)
 ·exact ⟨by rw [Z1 (ho3.get HJ2.out.br.box HJ2.out.apart.2.1)]; rfl, by rw [Z1 hb3]; rfl⟩
 clear hK K
 (try simp only [Act.put, zPA, zPZ, zPS])
 clear k3 kf lj2
 generalize (d2.setCell ⟨jb, 3, none⟩ (.bool true)) = d3 at *
 refine zT 14 ?_
 refine zT 15 ?_
 refine zR 16 ?_
 intro K hK
 have k1 := Z1 hb3 1
 have kf := fun o => Z7 hb3 o
 have lj3 := Z2 hb3
 have hbr3 := ho3.get HJ2.out.br.box HJ2.out.apart.2.1
 simp only [zGA, zGS, zGZ] at k1
 go_simp
 refine hK.out _ _ ?_ (fun Z3 => ?_)
 ·exact ⟨by rw [Z1 (((Z0.refl (fun x => x = jb) d3).setCell (p := ⟨jb, 1, none⟩) (fun _ => rfl) (.int .i64 (n : Int))).get hbr3 HJ2.out.apart.2.1)]; rfl, by rw [Z1 (Z1D hb3 (.int .i64 (n : Int))).2.2.2.1]; rfl⟩
 clear hK K
 (try simp only [Act.put, zPA, zPZ, zPS])
 clear k1 kf lj3 hbr3
 refine zD ?_
 have HO1 : Hid (Z0 (fun x => x = jb) w (d3.setCell ⟨jb, 1, none⟩ (.int .i64 (n : Int)))) := ((((HQ1.out.trans q2).mono (fun _ _ x => x.elim)).trans ho3).setCell (p := ⟨jb, 1, none⟩) (fun _ => rfl) _)
 have hb4 := (Z1D hb3 (.int .i64 (n : Int))).2.2.2.1
 have HJ1 : Hid (Z0i w0 (d3.setCell ⟨jb, 1, none⟩ (.int .i64 (n : Int))) sb rb ps s tid n k 0 true ids D jr jb cj vi vd) := HJ.out.turned (HO1.out.mono (fun _ _ e => Or.inl e)) ⟨hb4⟩ (Z4 HJ.out.dead HO1.out (fun k e x => (HJ.out.apart.2.2.2.1 k e).2.2.1 x)) (fun k e => Or.inl e)
 have hrj : ¬ r2 = jb := by have := HR2.out; have := Z2 HJ.out.job.box; omega
 have H22 := zh (((ho3.trans ((Z0.refl (fun x => x = jb) d3).setCell (p := ⟨jb, 1, none⟩) (fun _ => rfl) (.int .i64 (n : Int)))).get (q2.get H21.out (fun x => x)) hrj))
 have q12 : jb < w.heap.size := Z2 HJ.out.job.box
 clear Z3 q0 hq2 q2 ho3 hb3 hb4 HJ2 HS11 b0 k0 k3 H21 HPG
 generalize d3.setCell ⟨jb, 1, none⟩ (.int .i64 (n : Int)) = w2 at *
 have h1 := HJ1.out
 obtain ⟨cs, hrow⟩ := h1.row
 have b0 := Z1 h1.br.box 0
 have j0 : w2.cell? ⟨jr, 0, none⟩ = some (ptrV jb) := by rw [Z1 hrow]; rfl
 have lb := Z2 h1.br.box
 have lr := Z2 hrow
 have ljb := Z2 h1.job.box
 clear h1
 go_upto_region 12 with fail
 have HS12 : Hid (∀ W, Quiet w2 W -> (fun w' => w'.cell? ⟨jb, 4, none⟩ = some (.int .i64 (k : Int)) /\ w'.cell? ⟨jb, 1, none⟩ = some (.int .i64 (n : Int))) W) := fun W hq => by
  have b := (HJ1.out.quietly hq).job.box
  exact ⟨by rw [Z1 b]; rfl, by rw [Z1 b]; rfl⟩
 refine zH HS12 ((Z0.refl _ _).drew) (fun Z3 => ?_)
 have q0 : Quiet w2 w2.drew := (Z0.refl _ _).drew
 generalize w2.drew = d0 at q0 Z3 ⊢
 refine zT 0 ?_
 refine zT 1 ?_
 refine zT 2 ?_
 refine zT 3 ?_
 refine zT 4 ?_
 refine zT 5 ?_
 refine zT 6 ?_
 refine zT 7 ?_
 refine zT 8 ?_
 refine zD ?_
 clear Z3
 have HQ12 : Hid (Quiet w2 d0) := q0
 have HS13 : Hid (∀ W, Quiet d0 W -> (fun w' => w'.cell? ⟨rb, 0, none⟩ = some (ptrV sb) /\ w'.cell? ⟨jb, 0, none⟩ = some (.int .u64 (tid : Int)) /\ w'.cell? ⟨jb, 4, none⟩ = some (.int .i64 (k : Int))) W) := fun W hq => by
  have hj := HJ1.out.quietly (HQ12.out.trans hq)
  have b := hj.job.box
  exact ⟨by rw [Z1 hj.br.box]; rfl, by rw [Z1 b]; rfl, by rw [Z1 b]; rfl⟩
 clear j0 lb lr ljb HS12
 go_wp2_with fail
 refine zH HS13 ((Z0.refl _ _).drew) (fun Z3 => ?_)
 have q1 : Quiet d0 d0.drew := (Z0.refl _ _).drew
 generalize d0.drew = d1 at q1 Z3 ⊢
 refine zT 0 ?_
 refine zT 1 ?_
 refine zT 2 ?_
 refine zT 3 ?_
 refine zT 4 ?_
 refine zT 5 ?_
 refine zT 6 ?_
 refine zT 7 ?_
 refine zT 8 ?_
 refine zT 9 ?_
 refine zT 10 ?_
 refine zT 11 ?_
 refine zR 12 ?_
 intro K hK
 go_simp
 go_at_call 99
 refine (HGA.out _ (HO1.out.trans' (HQ12.out.trans q1) (fun _ _ x => x.elim))).mono ?_
 rintro e d2 ⟨v2, rfl, hq2, hn2, ht2⟩
 obtain ⟨A2, c2, rfl, _, _, _⟩ := Z9 ht2
 have q2 := q1.trans hq2
 dsimp only
 refine hK.out _ _ ?_ (fun Z3 => ?_)
 ·exact HS13.out _ q2
 clear hK K
 (try simp only [Act.put, zPA, zPZ, zPS])
 refine zT 13 ?_
 refine zD ?_
 clear Z3
 have HQ3 : Hid (Quiet w2 d2) := HQ12.out.trans q2
 have HTD := zh ht2
 have HNN : Hid (∀ k, (Value.slice A2 fl.length c2).ownBlock = some k -> w2.heap.size <= k) := fun k e => Nat.le_trans (HQ12.out.trans q1).size (hn2 k e)
 have hj := HJ1.out.quietly HQ3.out
 have HJ3 := zh hj
 have c0 := Z1 hj.job.box 0
 have c4 := Z1 hj.job.box 4
 have c6 := Z1 hj.job.box 6
 have cf := fun o => Z7 hj.job.box o
 simp only [zGA, zGS, zGZ] at c0 c4 c6
 have lj := Z2 hj.job.box
 have hw1 : IntKind.i64.wrap ((k : Int) + 1) = (k : Int) + 1 := ZE _ (by omega) (by omega)
 have ho4 : Z0 (fun x => x = jb) d2 (d2.setCell ⟨jb, 4, none⟩ (.int .i64 ((k : Int) + 1))) := (Z0.refl (fun x => x = jb) d2).setCell (p := ⟨jb, 4, none⟩) (fun _ => rfl) _
 have HB4 := zh (Z1D hj.job.box (.int .i64 ((k : Int) + 1))).1
 have HO4 := zh ho4
 clear q0 q1 q2 hq2 hn2 ht2 HS13 HGA ho4 hj
 go_upto_region 15 with fail
 generalize d2.setCell ⟨jb, 4, none⟩ (.int .i64 ((k : Int) + 1)) = w4 at *
 clear c0 c4 c6 cf lj
 have ap := HJ3.out.apart
 have hd4 : w4.ownsRow 0 48 2 vd D.length (ZM D) := Z4 HJ3.out.dead HO4.out (fun k e x => (ap.2.2.2.1 k e).2.2.1 x)
 have hfl4 : Rd w4 (fun _ => True) 2 A2 fl.length (ZM fl) := by
  obtain ⟨A', c', e', _, _, hr⟩ := Z9 HTD.out
  injection e' with e1 _ e2
  subst e1 e2
  exact (hr.kept HO4.out (fun k e x => by have := HNN.out k e; have := Z2 HJ1.out.job.box; omega)).mono (fun _ _ => trivial)
 have c0 := Z1 HB4.out 0
 have c6 := Z1 HB4.out 6
 simp only [zGA, zGS, zGZ] at c0 c6
 have lj := Z2 HB4.out
 have HAP := zh ap
 clear ap
 go_wp2_with (at_builtin; refine app Z4z rfl (.tmp 104) (.tmp 105) rfl rfl hd4 rfl hfl4 (Z4y fl) (by unfold maxLen; omega) (by omega) ?_)
 intro v5 w5 hg5
 obtain ⟨A5, c5, rfl, _, _, _⟩ := Z9 hg5.own
 have HG5 := zh hg5
 have hb5 := hg5.only.get HB4.out (fun e => (HAP.out.2.2.2.1 _ e).2.2.1 rfl)
 have cf := fun o => Z7 hb5 o
 have c6 := Z1 hb5 6
 simp only [zGA, zGS, zGZ] at c6
 have lj := Z2 hb5
 have HB6 := zh (Z1D hb5 (.slice A5 (D.length + fl.length) c5)).2.1
 have HO6 : Hid (Z0 (fun x => x = jb) w5 (w5.setCell ⟨jb, 6, none⟩ (.slice A5 (D.length + fl.length) c5))) := (Z0.refl (fun x => x = jb) w5).setCell (p := ⟨jb, 6, none⟩) (fun _ => rfl) _
 clear hd4 hfl4 hg5 hb5
 go_upto_region 16 with fail
 generalize w5.setCell ⟨jb, 6, none⟩ (.slice A5 (D.length + fl.length) c5) = w6 at *
 clear c0 c6 cf lj
 have hr2' := HR2.out
 have hjl := Z2 HJ.out.job.box
 have hn2 : ¬ r2 = jb := by omega
 have h26 := HO6.out.get (HG5.out.only.get (HO4.out.get (HQ3.out.get H22.out (fun x => x)) hn2) (fun e => by obtain ⟨c, hh⟩ := Zj HJ.out.dead e; have := Z2 hh; omega)) hn2
 obtain ⟨e0, e1, e2, e3⟩ := zC4 h26
 have ef := fun o => Z7 h26 o
 have c0 := Z1 HB6.out 0
 simp only [zGA, zGS, zGZ] at c0
 have l2 := Z2 h26
 have lj := Z2 HB6.out
 have HX := zh (Z0g h26 (.int .i64 1) (.int .u64 (tid : Int)) (.int .u64 0) (.int .i64 (fl.length : Int)))
 have ho9 := Z02 w6 r2 (.int .i64 1) (.int .u64 (tid : Int)) (.int .u64 0) (.int .i64 (fl.length : Int))
 have Zc : Hid (Z8 (.returned (.agg #[.int .i64 1, .int .u64 (tid : Int), .int .u64 0, .int .i64 (fl.length : Int)])) (fourSet w6 r2 (.int .i64 1) (.int .u64 (tid : Int)) (.int .u64 0) (.int .i64 (fl.length : Int)))) := by
  rw [<- Zb.out]
  exact ⟨⟨_, _, _, rfl⟩, Z5s HJ.out (Nat.le_of_eq hr2') HO1.out HQ3.out (Nat.lt_of_lt_of_le (Z2 H22.out) HQ3.out.size) HO4.out HG5.out HO6.out ho9 HB6.out⟩
 unfold fourSet at HX Zc
 clear ho9 h26 hr2' hjl
 go_wp2
 exact bodyPost_ret (Z00 Tryz.results51 _ _ r2 _ _ (0, 0) _ (by rfl) HX.out Tryz.underlying126 rfl Z1k) (by rfl) Zc.out
theorem Z0i.other {w0 : Z01} {w w' : World} {sb rb ps tid n k i q : Nat} {s : St} {known : Bool} {ids : List Nat} {D : List (Int × Int)} {jr jb cj : Nat} {vi vd v0 v1 v2 v3 : Value} (h : Z0i w0 w sb rb ps s tid n k i known ids D jr jb cj vi vd) (hl : Zw w0 w sb (fun k => BrK rb jr jb vi vd k ∨ k = q) s) (hq : w.heap[q]? = some (.cells #[v0, v1, v2, v3] 126 (0, 0))) (ho : Z0 (· = q) w w') (hn : w0.w.heap.size <= q) : Z0i w0 w' sb rb ps s tid n k i known ids D jr jb cj vi vd := by
 obtain ⟨cs, hr⟩ := h.row
 refine ⟨hl.turnTo (ho.mono (fun _ _ e => Or.inr e)) (fun k e => ?_) (fun k e => Or.inl (Or.inl e)), ⟨ho.get h.br.box (Za h.br.box hq (by decide))⟩, ⟨cs, ho.get hr (Za hr hq (by decide))⟩, ⟨ho.get h.job.box (Za h.job.box hq (by decide))⟩, Z4 h.idx ho (fun k e x => ?_), Z4 h.dead ho (fun k e x => ?_), h.new, h.cap⟩
 ·rcases e with e | e
  ·exact h.new k e
  ·omega
 ·obtain ⟨c, hh⟩ := Zj h.idx e
  exact Za hh hq (by decide) x
 ·obtain ⟨c, hh⟩ := Zj h.dead e
  exact Za hh hq (by decide) x
def Z4H (w : World) (ids : List Nat) (e : Ending) (w' : World) : Prop := ∃ v, e = .returned v /\ Quiet w w' /\ (∀ k, v.ownBlock = some k -> w.heap.size <= k) /\ w'.ownsRow 0 34 1 v ids.length (ZB ids)
theorem ZiW {w : World} {id c : Nat} {A : Option Addr} :
  Calls Tryz.prog 100 #[.int .u64 (id : Int), .slice A 0 c] w (Z4H w []) := by
 have HX : Hid (Z4H w [] (.returned (.slice none 0 0)) w) := ⟨_, rfl, Z0.refl _ _, (fun k e => by cases e), World.ownsRow_nil _ _ _ _⟩
 obtain ⟨Z8, Z6⟩ : ∃ Z8, Z4H w [] = Z8 := ⟨_, rfl⟩
 rw [Z6] at HX ⊢
 clear Z6
 go_enter Tryz.func100, Tryz.ntmps100
 go_wp2
 refine wp_loop_rounds 1 ?_
 rw [rounds_succ]
 go_wp2
 exact HX.out
theorem ZiX {w wv : World} {v : Value} {e : IE} (h : Z1L wv w v [e]) :
  Calls Tryz.prog 100 #[.int .u64 (e.table : Int), v] w (Z4H w [e.id]) := by
 obtain ⟨A, c, rfl, hc, hm, hrd⟩ := Z9 h.own
 obtain ⟨b, o, rfl, hs, hcl⟩ := hrd.cells (by show 0 < (Z4F e).length; exact (by decide : 0 < 6))
 have c0 := hcl 0 (.int .u64 (e.id : Int)) rfl
 have c1 := hcl 1 (.string e.name) rfl
 have c2 := hcl 2 (.int .u64 (e.table : Int)) rfl
 have c3 := hcl 3 (.int .i64 (e.column : Int)) rfl
 have c4 := hcl 4 (.int .u64 (e.xmin : Int)) rfl
 have c5 := hcl 5 (.int .u64 (e.xmax : Int)) rfl
 simp only [Nat.add_zero] at c0
 have lb := Ze c0
 dsimp only at lb
 have hq : Quiet w (w.alloc (.cells #[.int .u64 (e.id : Int), .string e.name, .int .u64 (e.table : Int), .int .i64 (e.column : Int), .int .u64 (e.xmin : Int), .int .u64 (e.xmax : Int)] 92)) := (Z0.refl _ _).alloc _
 have h2 := Z5 w (.cells #[.int .u64 (e.id : Int), .string e.name, .int .u64 (e.table : Int), .int .i64 (e.column : Int), .int .u64 (e.xmin : Int), .int .u64 (e.xmax : Int)] 92)
 obtain ⟨Z8, Z6⟩ : ∃ Z8, Z4H w [e.id] = Z8 := ⟨_, rfl⟩
 rw [Z6]
 have Zb := zh Z6
 obtain ⟨r2, hr2⟩ : ∃ r2, w.heap.size = r2 := ⟨_, rfl⟩
 rw [hr2] at h2
 clear Z6 h hrd hcl hs
 go_enter Tryz.func100, Tryz.ntmps100
 go_wp2
 refine wp_loop_rounds 2 ?_
 rw [rounds_succ]
 go_upto_region 5 with fail
 (try rw [hr2])
 generalize w.alloc (.cells #[.int .u64 (e.id : Int), .string e.name, .int .u64 (e.table : Int), .int .i64 (e.column : Int), .int .u64 (e.xmin : Int), .int .u64 (e.xmax : Int)] 92) = w1 at *
 clear c0 c1 c2 c3 c4 c5 lb
 have i0 := Z1 h2 0
 have i2 := Z1 h2 2
 simp only [zGA, zGS, zGZ] at i0 i2
 have lb := Z2 h2
 have hqn : Quiet w1 (w1.alloc (.cells (ZB [e.id]).toArray 34)) := (Z0.refl _ _).alloc _
 have HRD := zh (Rd.new w1 1 1 (ZB [e.id]) 34 (fun _ => True) rfl trivial)
 have HQN := zh (hq.trans hqn)
 clear hq h2 hqn
 go_wp2_with (at_builtin; refine app Z3y rfl (.tmp 18) (.tmp 21) rfl rfl (World.ownsRow_nil _ _ _ _) rfl HRD.out (Z4l [e.id]) (by unfold maxLen; omega) (by omega) ?_)
 intro v3 w3 hg
 have Zc : Hid (Z8 (.returned v3) w3) := by
  rw [<- Zb.out]
  refine ⟨v3, rfl, HQN.out.trans (hg.only.mono (fun k _ e => by cases e)), fun k e => ?_, hg.own⟩
  rcases hg.loc with y | y
  ·rw [y] at e; cases e
  ·rw [y] at e; have e2 := Option.some.inj e; have := HQN.out.size; rw [<- e2]; exact this
 clear hg HRD
 go_wp2
 rw [rounds_succ]
 go_wp2
 exact Zc.out
end Go.Proofs.YtnidjfjkodingaaGreatDoor
