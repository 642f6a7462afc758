/- store.CreateIndex of a store of one table that has no index. StoreEntries: CreateIndex, Used and Entries in the law's world. StoreFirst's plain invariants. The laws' own small functions: num, one. The store laws' awake: the document's example. StoreFirst: of those that change the same row the first one does. StoreEntries: an index has an entry for every version of its table. How arguments of the laws are opened: slices of any element. How the arguments of the laws on trees are opened: bytes, places, entries. StoreEntries' arguments opened. No condition. -/
import Derived.Test.YtmkaomglecfmfaaGreatDoorSe5
import Derived.Deep.CutBlock
import Derived.ProofKit
import Derived.OpenShut
import Derived.Deep.Slices
import Derived.Deep.Fields
import Derived.ChangeSame
import Derived.Carry
import Derived.Laws.Rows
namespace Go.Proofs.YtmkaomglecfmfaaGreatDoor
open Go.RowKit Go.Lap

/-- The index is made. -/
def idxSt (s : St) (t : TE) (name : ByteArray) (own : Nat) (es : List Ent) : St := { s with T := [t], I := [⟨s.blast + 1, name, t.id, 0, own, 0⟩], blast := s.blast + 1, ts := upd s.ts (s.blast + 1) (some es) }

def StoreIdxPost (w : World) (sb : Nat) (o : Nat → Nat) (s : St) (t : TE) (H : List (List (Option Tup))) (name : ByteArray) (own : Nat) (e : Ending) (w' : World) : Prop := ∃ hz0 : Nat, e = .returned (.int .i64 0) ∧ StepTo w sb o (idxSt s t name own (buildE H s.L hz0 (placesH H H.length))) w'

/-- Behind the book's CreateIndex: what it told lies at xi. -/
structure MixLeaf (o : Nat → Nat) (wb W : World) (bb xi last : Nat) (t : TE) (x : IE) : Prop where
  only : Only (fun k => o k = 3) wb W
  book : BookIs W (fun k => o k = 3 ∨ wb.heap.size ≤ k) bb [t] [x] last
  box : W.heap[xi]? = some (.cells #[.int .u64 (x.id : Int), .string x.name, .int .u64 (x.table : Int), .int .i64 (x.column : Int), .int .u64 (x.xmin : Int), .int .u64 (x.xmax : Int)] 80 (0, 0))
  new : wb.heap.size ≤ xi

theorem mix_leaf {o : Nat → Nat} {wb w1 : World} {bb xi last : Nat} {t : TE} {x : IE} {c0 c1 c2 c3 c4 c5 v0 v1 v2 v3 v4 v5 : Value} (hv : idxE x = [v0, v1, v2, v3, v4, v5]) (ho : Only (fun k => o k = 3) wb w1) (hb : BookIs w1 (fun k => (o k = 3 ∨ wb.heap.size ≤ k) ∧ k ≠ xi) bb [t] [x] last) (hx : w1.heap[xi]? = some (.cells #[c0, c1, c2, c3, c4, c5] 80 (0, 0))) (hn : wb.heap.size ≤ xi) :
    MixLeaf o wb (sixSet w1 xi v0 v1 v2 v3 v4 v5) bb xi last t x := by
  simp only [idxE, List.cons.injEq, and_true] at hv
  obtain ⟨rfl, rfl, rfl, rfl, rfl, rfl⟩ := hv
  have h1 := sixSet_only w1 xi (.int .u64 (x.id : Int)) (.string x.name) (.int .u64 (x.table : Int)) (.int .i64 (x.column : Int)) (.int .u64 (x.xmin : Int)) (.int .u64 (x.xmax : Int))
  exact ⟨ho.trans' h1 (fun k hk e => by omega), (hb.kept h1 (fun k hk e => hk.2 e)).mono (fun k hk => hk.1), sixSet_same hx _ _ _ _ _ _, hn⟩

theorem mix_key {goal : Prop} {o : Nat → Nat} {wb : World} {bb last : Nat} {t : TE} {x : IE} {G : Nat → World → Prop} (main : (∀ xi W, MixLeaf o wb W bb xi last t x → G xi W) → goal) (key : ∀ xi W, MixLeaf o wb W bb xi last t x → G xi W) : goal := main key

/-- Behind tree.New and table: the tree at nb, the table at tq. -/
structure NewLeaf (wb W : World) (nb tq B1 : Nat) (A : Option Addr) (c : Nat) (t : TE) : Prop where
  quiet : Quiet wb W
  tree : TreeIs W (fun k => wb.heap.size ≤ k ∧ k < B1 ∧ k ≠ tq) nb []
  box : W.heap[tq]? = some (.cells #[.int .u64 (t.id : Int), .string t.name, .slice A t.cols.length c, .int .u64 (t.xmin : Int), .int .u64 (t.xmax : Int)] 86 (0, 0))
  new : wb.heap.size ≤ tq
  cols : Rd W (fun k => B1 ≤ k ∧ k ≠ tq) 2 A t.cols.length (colsV t.cols) ∧ t.cols.length ≤ c ∧ c ≤ maxLen
  big : wb.heap.size ≤ B1 ∧ B1 ≤ W.heap.size

theorem new_leaf {wb w1 : World} {nb tq B1 c : Nat} {A : Option Addr} {t : TE} {D S : Nat → Prop} {c0 c1 c2 c3 c4 : Value} (hq : Quiet wb w1) (ht : TreeIs w1 D nb []) (hd : ∀ k, D k → wb.heap.size ≤ k ∧ k < B1 ∧ k ≠ tq) (hx : w1.heap[tq]? = some (.cells #[c0, c1, c2, c3, c4] 86 (0, 0))) (hn : wb.heap.size ≤ tq)
    (hr : Rd w1 S 2 A t.cols.length (colsV t.cols)) (hs : ∀ k, S k → B1 ≤ k ∧ k ≠ tq) (hc : t.cols.length ≤ c ∧ c ≤ maxLen) (hB : wb.heap.size ≤ B1 ∧ B1 ≤ w1.heap.size) :
    NewLeaf wb (fiveSet w1 tq (.int .u64 (t.id : Int)) (.string t.name) (.slice A t.cols.length c) (.int .u64 (t.xmin : Int)) (.int .u64 (t.xmax : Int))) nb tq B1 A c t := by
  have h1 := fiveSet_only w1 tq (.int .u64 (t.id : Int)) (.string t.name) (.slice A t.cols.length c) (.int .u64 (t.xmin : Int)) (.int .u64 (t.xmax : Int))
  exact ⟨hq.trans' h1 (fun k hk e => by omega), (ht.mono (fun k a _ => hd k a)).kept h1 (fun k hk e => hk.2.2 e), fiveSet_same hx _ _ _ _ _, hn, ⟨(hr.mono hs).kept h1 (fun k hk e => hk.2 e), hc⟩, hB.1, Nat.le_trans hB.2 h1.size⟩

theorem new_key {goal : Prop} {wb : World} {t : TE} {G : Nat → Nat → Nat → Option Addr → Nat → World → Prop} (main : (∀ nb tq B1 A c W, NewLeaf wb W nb tq B1 A c t → G nb tq B1 A c W) → goal) (key : ∀ nb tq B1 A c W, NewLeaf wb W nb tq B1 A c t → G nb tq B1 A c W) : goal := main key

theorem idx_done {w w2 W1 wr w6 : World} {sb lb bb pb mh mt ms nb xi own : Nat} {o : Nat → Nat} {s : St} {t : TE} {name : ByteArray} {es : List Ent} {fh ft fs : Nat → Option Value} (h : StoreRow w sb o s lb bb pb mh mt ms fh ft fs) (hq2 : Quiet w w2) (hL : MixLeaf o w2 W1 bb xi (s.blast + 1) t ⟨s.blast + 1, name, t.id, 0, own, 0⟩)
    (ho : Only (fun k => W1.heap.size ≤ k) W1 wr) (ht : TreeIs wr (fun k => W1.heap.size ≤ k) nb es) (ho6 : Only (fun k => k = mt) wr w6) (hm : MapF w6 mt (upd ft (s.blast + 1) (some (ptrV nb)))) : StepTo w sb o (idxSt s t name own es) w6 := by
  have h1 := (h.quietly hq2).setBook hL.only hL.book
  have hz2 := hq2.size
  have hz1 := hL.only.size
  have hzr := ho.size
  have hmt : o mt = 7 := h.tags.2.2.2.1
  have hml := h.mT.lt
  have hor := h1.kept ho (fun k x => h1.big k x)
  have hn := hor.newTree (B := W1.heap.size) (id := s.blast + 1) (tb := nb) (es := es) h1.big hzr ho6 hm (ht.kept ho6 (fun k x e => by omega))
  refine ⟨_, fun k hk => ?_, (((hq2.mono (T := fun k => o k ≠ 0) (fun _ _ x => x.elim)).trans' hL.only (fun k _ x => by omega)).trans' ho (fun k hk x => by omega)).trans' ho6 (fun k _ x => by rw [x, hmt]; omega), _, _, _, _, _, _, _, _, _, hn⟩
  rw [grow_old (by omega), grow_old (by omega)]

set_option maxHeartbeats 8000000 in
set_option maxRecDepth 100000 in
theorem store_index {w : World} {sb x N : Nat} {o : Nat → Nat} {s : St} {y : Snap} {t : TE} {name of_ nm : ByteArray} {H : List (List (Option Tup))} (h : StoreAt w sb o s) (hx : U64 x) (hy : s.sn x = some y) (hT : s.T = [t]) (hI : s.I = []) (hc : t.cols = [(nm, 1)]) (hf : findT s.L y of_ s.T = some 0) (hH : s.hs t.id = some H) (hid : U64 t.id)
    (hl : s.blast < 1000000) (hu : U64 y.own) (hnm : Small name) (hne : (t.name.toList == name.toList) = false) (hL : s.L.length < 1000000000) (hN : ∀ x y, s.sn x = some y → x ≤ N) (hN2 : N ≤ 2000000) (hp : ∀ k, k ≤ H.length → (placesH H k).length ≤ 10000) (hint : IntHeap H) :
    Calls Tryz.prog 9 #[ptrV sb, .int .u64 (x : Int), .string name, .string of_, .string nm] w (StoreIdxPost w sb o s t H name y.own) := by
  have HRU := Lib.hid (store_runs h hx)
  obtain ⟨lb, bb, pb, mh, mt, ms, fh, ft, fs, h⟩ := h
  have HH := Lib.hid h
  obtain ⟨hb, hfh, hhp⟩ := h.heaps.2 t.id H hH
  have HHP := Lib.hid hhp
  have HFH := Lib.hid hfh
  have HHH := Lib.hid hH
  have HCC := Lib.hid hc
  have HID := Lib.hid hid
  have HTI := Lib.hid (And.intro hT hI)
  have HLU := Lib.hid (And.intro hl hu)
  have HNM := Lib.hid (And.intro hnm hne)
  have HNN := Lib.hid (And.intro hL (And.intro hN hN2))
  have HPL := Lib.hid hp
  have HINT := Lib.hid hint
  have HFT := Lib.hid hf
  have HBIG : Hid (∀ k, w.heap.size ≤ k → o k = 0) := h.big
  have HTG := Lib.hid h.tags
  unfold RunsPost at HRU
  rw [hy] at HRU
  obtain ⟨POST, hPOST⟩ : ∃ POST, StoreIdxPost w sb o s t H name y.own = POST := ⟨_, rfl⟩
  rw [hPOST]
  have HPOST := Lib.hid hPOST
  clear h hx hT hI hc hf hH hid hl hu hnm hne hL hN hN2 hp hint hfh hhp hPOST
  go_enter Tryz.func9, Tryz.ntmps9
  go_wp2_with fail
  refine HRU.out.mono ?_
  rintro e w1 ⟨hq1, A, c, rfl, hs1⟩
  clear HRU
  have hq2 : Quiet w (w1.alloc (.cells (snapCells y A c) 70)) := hq1.alloc _
  have hpb := alloc_new w1 (.cells (snapCells y A c) 70)
  have hs2 := hs1.kept ((Only.refl (fun _ => False) w1).alloc (.cells (snapCells y A c) 70)) (fun _ _ x => x)
  have hz1 := hq1.size
  obtain ⟨ps, hps⟩ : ∃ ps, w1.heap.size = ps := ⟨_, rfl⟩
  unfold snapV
  go_wp2_with fail
  rw [hps] at hpb hz1
  (try rw [hps])
  generalize w1.alloc (.cells (snapCells y A c) 70) = w2 at *
  have HQ2 := Lib.hid hq2
  have HPS := Lib.hid (And.intro hpb hz1)
  have HSN := Lib.hid hs2
  have HS4 : Hid (∀ W, Only (fun k => o k = 3) w2 W → (fun w' => w'.cell? ⟨sb, 1, none⟩ = some (ptrV bb) ∧ w'.cell? ⟨sb, 0, none⟩ = some (ptrV lb) ∧ w'.cell? ⟨ps, 0, none⟩ = some (.int .u64 (y.own : Int)) ∧ w'.cell? ⟨ps, 1, none⟩ = some (.int .u64 (y.xmin : Int)) ∧ w'.cell? ⟨ps, 2, none⟩ = some (.int .u64 (y.xmax : Int)) ∧ w'.cell? ⟨ps, 3, none⟩ = some (.slice A y.run.length c)) W) := fun W ho => by
    have tg := HTG.out
    have c := (HH.out.quietly HQ2.out).cells
    have hz := HBIG.out ps HPS.out.2
    obtain ⟨s0, s1, s2, s3⟩ := snapBox_cells (ho.get HPS.out.1 (fun x => by omega))
    exact ⟨ho.cell c.2.1 (fun x => by dsimp only at x; omega), ho.cell c.1 (fun x => by dsimp only at x; omega), s0, s1, s2, s3⟩
  obtain ⟨nid, hnid⟩ : ∃ nid, s.blast + 1 = nid := ⟨_, rfl⟩
  have HNID := Lib.hid hnid
  have HBI : Hid (∀ W, Quiet w2 W → Calls Tryz.prog 26 #[ptrV bb, ptrV lb, .agg #[.int .u64 (y.own : Int), .int .u64 (y.xmin : Int), .int .u64 (y.xmax : Int), .slice A y.run.length c], .string name, .string of_, .string nm] W (fun e w' => e = .returned (.tuple #[.agg #[.int .u64 (nid : Int), .string name, .int .u64 (t.id : Int), .int .i64 0, .int .u64 (y.own : Int), .int .u64 0], .int .i64 0]) ∧ Only (fun k => o k = 3) W w' ∧ BookIs w' (fun k => o k = 3 ∨ W.heap.size ≤ k) bb [t] [⟨nid, name, t.id, 0, y.own, 0⟩] nid)) := fun W hq => by
    subst hnid
    have h2 := (HH.out.quietly HQ2.out).quietly hq
    have hbk := h2.book
    rw [HTI.out.1, HTI.out.2] at hbk
    have hf := HFT.out
    rw [HTI.out.1] at hf
    exact book_index hbk h2.log (HSN.out.kept hq (fun _ _ x => x)) HLU.out.1 HCC.out hf HNM.out.1 HNM.out.2 HID.out HLU.out.2 (fun k hk => by rcases Nat.lt_or_ge k W.heap.size with a | a; exact a; have := h2.big k a; omega)
  clear hq1 hs1 hs2 hpb hz1 hq2 hps hy hnid
  apply mix_key (o := o) (wb := w2) (bb := bb) (last := nid) (t := t) (x := ⟨nid, name, t.id, 0, y.own, 0⟩)
  case main =>
      intro KEY
      refine wp_region_held_drew (S := (fun w' => w'.cell? ⟨sb, 1, none⟩ = some (ptrV bb) ∧ w'.cell? ⟨sb, 0, none⟩ = some (ptrV lb) ∧ w'.cell? ⟨ps, 0, none⟩ = some (.int .u64 (y.own : Int)) ∧ w'.cell? ⟨ps, 1, none⟩ = some (.int .u64 (y.xmin : Int)) ∧ w'.cell? ⟨ps, 2, none⟩ = some (.int .u64 (y.xmax : Int)) ∧ w'.cell? ⟨ps, 3, none⟩ = some (.slice A y.run.length c))) (by kernel_rfl) (HS4.out _ ((Only.refl _ _).drew)) (fun hHeld => ?_)
      simp only [List.size_toArray, List.length_cons, List.length_nil, Nat.reduceAdd]
      have q0 : Quiet w2 w2.drew := (Only.refl _ _).drew
      generalize w2.drew = d0 at q0 hHeld ⊢
      (refine zTK 0 (oi := ?_) (v := ?_) ?_ ?_ (Or.inl ⟨?_, ?_⟩) ?_; rotate_left 2; (focus (simp only [zGA, zGZ, zGS] <;> rfl)); (focus (exact fun _ _ _ h => h)); (focus rfl); (focus (intro w hSw; (try dsimp only at hSw); go_simp; (try with_reducible rfl); done)); (try simp only [Act.put, zPA, zPZ, zPS]))
      (refine zTK 1 (oi := ?_) (v := ?_) ?_ ?_ (Or.inl ⟨?_, ?_⟩) ?_; rotate_left 2; (focus (simp only [zGA, zGZ, zGS] <;> rfl)); (focus (exact fun _ _ _ h => h)); (focus rfl); (focus (intro w hSw; (try dsimp only at hSw); go_simp; (try with_reducible rfl); done)); (try simp only [Act.put, zPA, zPZ, zPS]))
      (refine zTK 2 (oi := ?_) (v := ?_) ?_ ?_ (Or.inl ⟨?_, ?_⟩) ?_; rotate_left 2; (focus (simp only [zGA, zGZ, zGS] <;> rfl)); (focus (exact fun _ _ _ h => h)); (focus rfl); (focus (intro w hSw; (try dsimp only at hSw); go_simp; (try with_reducible rfl); done)); (try simp only [Act.put, zPA, zPZ, zPS]))
      (refine zTK 3 (oi := ?_) (v := ?_) ?_ ?_ (Or.inl ⟨?_, ?_⟩) ?_; rotate_left 2; (focus (simp only [zGA, zGZ, zGS] <;> rfl)); (focus (exact fun _ _ _ h => h)); (focus rfl); (focus (intro w hSw; (try dsimp only at hSw); go_simp; (try with_reducible rfl); done)); (try simp only [Act.put, zPA, zPZ, zPS]))
      (refine zTK 4 (oi := ?_) (v := ?_) ?_ ?_ (Or.inl ⟨?_, ?_⟩) ?_; rotate_left 2; (focus (simp only [zGA, zGZ, zGS] <;> rfl)); (focus (exact fun _ _ _ h => h)); (focus rfl); (focus (intro w hSw; (try dsimp only at hSw); go_simp; (try with_reducible rfl); done)); (try simp only [Act.put, zPA, zPZ, zPS]))
      (refine zTK 5 (oi := ?_) (v := ?_) ?_ ?_ (Or.inl ⟨?_, ?_⟩) ?_; rotate_left 2; (focus (simp only [zGA, zGZ, zGS] <;> rfl)); (focus (exact fun _ _ _ h => h)); (focus rfl); (focus (intro w hSw; (try dsimp only at hSw); go_simp; (try with_reducible rfl); done)); (try simp only [Act.put, zPA, zPZ, zPS]))
      (refine zTK 6 (oi := ?_) (v := ?_) ?_ ?_ (Or.inl ⟨?_, ?_⟩) ?_; rotate_left 2; (focus (simp only [zGA, zGZ, zGS] <;> rfl)); (focus (exact fun _ _ _ h => h)); (focus rfl); (focus (intro w hSw; (try dsimp only at hSw); go_simp; (try with_reducible rfl); done)); (try simp only [Act.put, zPA, zPZ, zPS]))
      (refine zTK 7 (oi := ?_) (v := ?_) ?_ ?_ (Or.inl ⟨?_, ?_⟩) ?_; rotate_left 2; (focus (simp only [zGA, zGZ, zGS] <;> rfl)); (focus (exact fun _ _ _ h => h)); (focus rfl); (focus (intro w hSw; (try dsimp only at hSw); go_simp; (try with_reducible rfl); done)); (try simp only [Act.put, zPA, zPZ, zPS]))
      (refine zTK 8 (oi := ?_) (v := ?_) ?_ ?_ (Or.inl ⟨?_, ?_⟩) ?_; rotate_left 2; (focus (simp only [zGA, zGZ, zGS] <;> rfl)); (focus (exact fun _ _ _ h => h)); (focus rfl); (focus (intro w hSw; (try dsimp only at hSw); go_simp; (try with_reducible rfl); done)); (try simp only [Act.put, zPA, zPZ, zPS]))
      (refine zTK 9 (oi := ?_) (v := ?_) ?_ ?_ (Or.inl ⟨?_, ?_⟩) ?_; rotate_left 2; (focus (simp only [zGA, zGZ, zGS] <;> rfl)); (focus (exact fun _ _ _ h => h)); (focus rfl); (focus (intro w hSw; (try dsimp only at hSw); go_simp; (try with_reducible rfl); done)); (try simp only [Act.put, zPA, zPZ, zPS]))
      (refine zTK 10 (oi := ?_) (v := ?_) ?_ ?_ (Or.inl ⟨?_, ?_⟩) ?_; rotate_left 2; (focus (simp only [zGA, zGZ, zGS] <;> rfl)); (focus (exact fun _ _ _ h => h)); (focus rfl); (focus (intro w hSw; (try dsimp only at hSw); go_simp; (try with_reducible rfl); done)); (try simp only [Act.put, zPA, zPZ, zPS]))
      (refine zTK 11 (oi := ?_) (v := ?_) ?_ ?_ (Or.inl ⟨?_, ?_⟩) ?_; rotate_left 2; (focus (simp only [zGA, zGZ, zGS] <;> rfl)); (focus (exact fun _ _ _ h => h)); (focus rfl); (focus (intro w hSw; (try dsimp only at hSw); go_simp; (try with_reducible rfl); done)); (try simp only [Act.put, zPA, zPZ, zPS]))
      refine wpAnyH_ready (rs := [12, 16]) (by kernel_rfl) (by simp) ?_
      refine AllReadyH.cons (o := ?_) ?_ ?_ ?_
      rotate_left 1
      (focus (simp only [zGA, zGZ, zGS] <;> rfl))
      · intro K hK
        go_simp
        go_at_call 26
        refine (HBI.out _ q0).mono ?_
        rintro e d2 ⟨rfl, ho2, hb2⟩
        have hO := (q0.mono (T := fun k => o k = 3) (fun _ _ x => x.elim)).trans ho2
        have hzq := q0.size
        have hbl := hb2.lim
        dsimp only
        refine hK.out _ _ ?_ (fun hHeld => ?_)
        · exact HS4.out _ hO
        clear hK K
        (try simp only [Act.put, zPA, zPZ, zPS])
        (refine zTK 13 (oi := ?_) (v := ?_) ?_ ?_ (Or.inl ⟨?_, ?_⟩) ?_; rotate_left 2; (focus (simp only [zGA, zGZ, zGS] <;> rfl)); (focus (exact fun _ _ _ h => h)); (focus rfl); (focus (intro w hSw; (try dsimp only at hSw); go_simp; (try with_reducible rfl); done)); (try simp only [Act.put, zPA, zPZ, zPS]))
        (refine zTK 14 (oi := ?_) (v := ?_) ?_ ?_ (Or.inl ⟨?_, ?_⟩) ?_; rotate_left 2; (focus (simp only [zGA, zGZ, zGS] <;> rfl)); (focus (exact fun _ _ _ h => h)); (focus rfl); (focus (intro w hSw; (try dsimp only at hSw); go_simp; (try with_reducible rfl); done)); (try simp only [Act.put, zPA, zPZ, zPS]))
        (refine zTK 15 (oi := ?_) (v := ?_) ?_ ?_ (Or.inl ⟨?_, ?_⟩) ?_; rotate_left 2; (focus (simp only [zGA, zGZ, zGS] <;> rfl)); (focus (exact fun _ _ _ h => h)); (focus rfl); (focus (intro w hSw; (try dsimp only at hSw); go_simp; (try with_reducible rfl); done)); (try simp only [Act.put, zPA, zPZ, zPS]))
        refine wpAnyH_ready (rs := [16]) (by kernel_rfl) (by simp) ?_
        refine AllReadyH.cons (o := ?_) ?_ ?_ AllReadyH.nil
        rotate_left 1
        (focus (simp only [zGA, zGZ, zGS] <;> rfl))
        intro K hK
        go_simp
        refine hK.out _ _ ?_ (fun hHeld => ?_)
        · exact HS4.out _ (hO.alloc _)
        clear hK K
        (try simp only [Act.put, zPA, zPZ, zPS])
        have hO3 := hO.alloc (.cells #[.int .u64 0, .string ⟨#[]⟩, .int .u64 0, .int .i64 0, .int .u64 0, .int .u64 0] 80)
        have hx1 := alloc_new d2 (.cells #[.int .u64 0, .string ⟨#[]⟩, .int .u64 0, .int .i64 0, .int .u64 0, .int .u64 0] 80)
        have hnp : w2.heap.size ≤ d2.heap.size := hO.size
        have hB := (hbl.kept ((Only.refl (fun _ => False) d2).alloc (.cells #[.int .u64 0, .string ⟨#[]⟩, .int .u64 0, .int .i64 0, .int .u64 0, .int .u64 0] 80)) (fun _ _ x => x)).mono (G := fun k => (o k = 3 ∨ w2.heap.size ≤ k) ∧ k ≠ d2.heap.size) (fun k hk => ⟨by rcases hk.1 with a | a; exact Or.inl a; exact Or.inr (by omega), by omega⟩)
        obtain ⟨xi, hxi⟩ : ∃ xi, d2.heap.size = xi := ⟨_, rfl⟩
        rw [hxi] at hx1 hnp hB ⊢
        generalize d2.alloc (.cells #[.int .u64 0, .string ⟨#[]⟩, .int .u64 0, .int .i64 0, .int .u64 0, .int .u64 0] 80) = d3 at *
        clear hxi hO
        have hO := hO3
        have z0 := cell_of hx1 0
        have z1 := cell_of hx1 1
        have z2 := cell_of hx1 2
        have z3 := cell_of hx1 3
        have z4 := cell_of hx1 4
        have z5 := cell_of hx1 5
        have zf := fun o => frozen_of hx1 o
        simp only [zGA, zGS, zGZ] at z0 z1 z2 z3 z4 z5
        refine wpAnyH_ready (rs := [17]) (by kernel_rfl) (by simp) ?_
        refine AllReadyH.cons (o := ?_) ?_ ?_ AllReadyH.nil
        rotate_left 1
        (focus (simp only [zGA, zGZ, zGS] <;> rfl))
        intro K hK
        go_simp
        refine hK.out _ _ ?_ (fun hHeld => ?_)
        · exact HS4.out _ (mix_leaf (x := ⟨nid, name, t.id, 0, y.own, 0⟩) (v0 := .int .u64 (nid : Int)) (v1 := .string name) (v2 := .int .u64 (t.id : Int)) (v3 := .int .i64 0) (v4 := .int .u64 (y.own : Int)) (v5 := .int .u64 0) rfl hO hB hx1 hnp).only
        clear hK K
        (try simp only [Act.put, zPA, zPZ, zPS])
        have HG := mix_leaf (x := ⟨nid, name, t.id, 0, y.own, 0⟩) (v0 := .int .u64 (nid : Int)) (v1 := .string name) (v2 := .int .u64 (t.id : Int)) (v3 := .int .i64 0) (v4 := .int .u64 (y.own : Int)) (v5 := .int .u64 0) rfl hO hB hx1 hnp
        unfold sixSet at HG
        (refine zTK 18 (oi := ?_) (v := ?_) ?_ ?_ (Or.inl ⟨?_, ?_⟩) ?_; rotate_left 2; (focus (simp only [zGA, zGZ, zGS] <;> rfl)); (focus (exact fun _ _ _ h => h)); (focus rfl); (focus (intro w hSw; (try dsimp only at hSw); go_simp; (try with_reducible rfl); done)); (try simp only [Act.put, zPA, zPZ, zPS]))
        refine wpAnyH_done (by kernel_rfl) ?_ _
        generalize ((((((d3.setCell ⟨xi, 0, none⟩ (.int .u64 (nid : Int))).setCell ⟨xi, 1, none⟩ (.string name)).setCell ⟨xi, 2, none⟩ (.int .u64 (t.id : Int))).setCell ⟨xi, 3, none⟩ (.int .i64 0)).setCell ⟨xi, 4, none⟩ (.int .u64 (y.own : Int))).setCell ⟨xi, 5, none⟩ (.int .u64 0)) = WF at HG ⊢
        exact KEY _ _ HG
      refine AllReadyH.cons (o := ?_) ?_ ?_ AllReadyH.nil
      rotate_left 1
      (focus (simp only [zGA, zGZ, zGS] <;> rfl))
      intro K hK
      go_simp
      refine hK.out _ _ ?_ (fun hHeld => ?_)
      · exact HS4.out _ ((q0.alloc _).mono (fun _ _ x => x.elim))
      clear hK K
      (try simp only [Act.put, zPA, zPZ, zPS])
      have q1 : Quiet w2 (d0.alloc (.cells #[.int .u64 0, .string ⟨#[]⟩, .int .u64 0, .int .i64 0, .int .u64 0, .int .u64 0] 80)) := q0.alloc _
      have hb1 := alloc_new d0 (.cells #[.int .u64 0, .string ⟨#[]⟩, .int .u64 0, .int .i64 0, .int .u64 0, .int .u64 0] 80)
      have hnp : w2.heap.size ≤ d0.heap.size := q0.size
      obtain ⟨xi, hxi⟩ : ∃ xi, d0.heap.size = xi := ⟨_, rfl⟩
      rw [hxi] at hb1 hnp ⊢
      generalize d0.alloc (.cells #[.int .u64 0, .string ⟨#[]⟩, .int .u64 0, .int .i64 0, .int .u64 0, .int .u64 0] 80) = d1 at *
      clear hxi
      refine wpAnyH_ready (rs := [12]) (by kernel_rfl) (by simp) ?_
      refine AllReadyH.cons (o := ?_) ?_ ?_ AllReadyH.nil
      rotate_left 1
      (focus (simp only [zGA, zGZ, zGS] <;> rfl))
      intro K hK
      go_simp
      go_at_call 26
      refine (HBI.out _ q1).mono ?_
      rintro e d2 ⟨rfl, ho2, hb2⟩
      have hO := (q1.mono (T := fun k => o k = 3) (fun _ _ x => x.elim)).trans ho2
      have hzq := q1.size
      have hox := HBIG.out xi (Nat.le_trans HQ2.out.size hnp)
      have hx1 := ho2.get hb1 (fun x => by omega)
      have hlx := lt_of_get hb1
      have hB := hb2.mono (G := fun k => (o k = 3 ∨ w2.heap.size ≤ k) ∧ k ≠ xi) (fun k hk => by rcases hk with a | a; exact ⟨Or.inl a, fun e => by rw [e] at a; omega⟩; exact ⟨Or.inr (by omega), by omega⟩)
      dsimp only
      refine hK.out _ _ ?_ (fun hHeld => ?_)
      · exact HS4.out _ hO
      clear hK K
      (try simp only [Act.put, zPA, zPZ, zPS])
      have z0 := cell_of hx1 0
      have z1 := cell_of hx1 1
      have z2 := cell_of hx1 2
      have z3 := cell_of hx1 3
      have z4 := cell_of hx1 4
      have z5 := cell_of hx1 5
      have zf := fun o => frozen_of hx1 o
      simp only [zGA, zGS, zGZ] at z0 z1 z2 z3 z4 z5
      (refine zTK 13 (oi := ?_) (v := ?_) ?_ ?_ (Or.inl ⟨?_, ?_⟩) ?_; rotate_left 2; (focus (simp only [zGA, zGZ, zGS] <;> rfl)); (focus (exact fun _ _ _ h => h)); (focus rfl); (focus (intro w hSw; (try dsimp only at hSw); go_simp; (try with_reducible rfl); done)); (try simp only [Act.put, zPA, zPZ, zPS]))
      (refine zTK 14 (oi := ?_) (v := ?_) ?_ ?_ (Or.inl ⟨?_, ?_⟩) ?_; rotate_left 2; (focus (simp only [zGA, zGZ, zGS] <;> rfl)); (focus (exact fun _ _ _ h => h)); (focus rfl); (focus (intro w hSw; (try dsimp only at hSw); go_simp; (try with_reducible rfl); done)); (try simp only [Act.put, zPA, zPZ, zPS]))
      (refine zTK 15 (oi := ?_) (v := ?_) ?_ ?_ (Or.inl ⟨?_, ?_⟩) ?_; rotate_left 2; (focus (simp only [zGA, zGZ, zGS] <;> rfl)); (focus (exact fun _ _ _ h => h)); (focus rfl); (focus (intro w hSw; (try dsimp only at hSw); go_simp; (try with_reducible rfl); done)); (try simp only [Act.put, zPA, zPZ, zPS]))
      refine wpAnyH_ready (rs := [17]) (by kernel_rfl) (by simp) ?_
      refine AllReadyH.cons (o := ?_) ?_ ?_ AllReadyH.nil
      rotate_left 1
      (focus (simp only [zGA, zGZ, zGS] <;> rfl))
      intro K hK
      go_simp
      refine hK.out _ _ ?_ (fun hHeld => ?_)
      · exact HS4.out _ (mix_leaf (x := ⟨nid, name, t.id, 0, y.own, 0⟩) (v0 := .int .u64 (nid : Int)) (v1 := .string name) (v2 := .int .u64 (t.id : Int)) (v3 := .int .i64 0) (v4 := .int .u64 (y.own : Int)) (v5 := .int .u64 0) rfl hO hB hx1 hnp).only
      clear hK K
      (try simp only [Act.put, zPA, zPZ, zPS])
      have HG := mix_leaf (x := ⟨nid, name, t.id, 0, y.own, 0⟩) (v0 := .int .u64 (nid : Int)) (v1 := .string name) (v2 := .int .u64 (t.id : Int)) (v3 := .int .i64 0) (v4 := .int .u64 (y.own : Int)) (v5 := .int .u64 0) rfl hO hB hx1 hnp
      unfold sixSet at HG
      (refine zTK 18 (oi := ?_) (v := ?_) ?_ ?_ (Or.inl ⟨?_, ?_⟩) ?_; rotate_left 2; (focus (simp only [zGA, zGZ, zGS] <;> rfl)); (focus (exact fun _ _ _ h => h)); (focus rfl); (focus (intro w hSw; (try dsimp only at hSw); go_simp; (try with_reducible rfl); done)); (try simp only [Act.put, zPA, zPZ, zPS]))
      refine wpAnyH_done (by kernel_rfl) ?_ _
      generalize ((((((d2.setCell ⟨xi, 0, none⟩ (.int .u64 (nid : Int))).setCell ⟨xi, 1, none⟩ (.string name)).setCell ⟨xi, 2, none⟩ (.int .u64 (t.id : Int))).setCell ⟨xi, 3, none⟩ (.int .i64 0)).setCell ⟨xi, 4, none⟩ (.int .u64 (y.own : Int))).setCell ⟨xi, 5, none⟩ (.int .u64 0)) = WF at HG ⊢
      exact KEY _ _ HG
  case key =>
    intro xi W1 HL0
    have HL := Lib.hid HL0
    clear HL0 HS4 HBI
    have hst := (HH.out.quietly HQ2.out).setBook HL.out.only HL.out.book
    obtain ⟨o1, ho1⟩ : ∃ o1, grow o w2.heap.size W1.heap.size 3 = o1 := ⟨_, rfl⟩
    rw [ho1] at hst
    have HST := Lib.hid hst
    have HSA : Hid (StoreAt W1 sb o1 { s with T := [t], I := [⟨nid, name, t.id, 0, y.own, 0⟩], blast := nid }) := ⟨_, _, _, _, _, _, _, _, _, hst⟩
    have HBX := Lib.hid HL.out.box
    clear hst ho1
    have HS7 : Hid (∀ W, Quiet W1 W → (fun w' => w'.cell? ⟨xi, 2, none⟩ = some (.int .u64 (t.id : Int))) W) := fun W hq => by
      show W.cell? _ = _
      rw [cell_of (hq.get HBX.out (fun x => x))]
      rfl
    have HTBL : Hid (∀ W, Quiet W1 W → Calls Tryz.prog 28 #[ptrV sb, .int .u64 (t.id : Int)] W (TabvPost W t)) := fun W hq => store_table (HSA.out.quietly hq) rfl
    go_wp2_with fail
    apply new_key (wb := W1) (t := t)
    case main =>
        intro KEY
        refine wp_region_held_drew (S := (fun w' => w'.cell? ⟨xi, 2, none⟩ = some (.int .u64 (t.id : Int)))) (by kernel_rfl) (HS7.out _ ((Only.refl _ _).drew)) (fun hHeld => ?_)
        simp only [List.size_toArray, List.length_cons, List.length_nil, Nat.reduceAdd]
        have q0 : Quiet W1 W1.drew := (Only.refl _ _).drew
        generalize W1.drew = d0 at q0 hHeld ⊢
        (refine zTK 1 (oi := ?_) (v := ?_) ?_ ?_ (Or.inl ⟨?_, ?_⟩) ?_; rotate_left 2; (focus (simp only [zGA, zGZ, zGS] <;> rfl)); (focus (exact fun _ _ _ h => h)); (focus rfl); (focus (intro w hSw; (try dsimp only at hSw); go_simp; (try with_reducible rfl); done)); (try simp only [Act.put, zPA, zPZ, zPS]))
        (refine zTK 2 (oi := ?_) (v := ?_) ?_ ?_ (Or.inl ⟨?_, ?_⟩) ?_; rotate_left 2; (focus (simp only [zGA, zGZ, zGS] <;> rfl)); (focus (exact fun _ _ _ h => h)); (focus rfl); (focus (intro w hSw; (try dsimp only at hSw); go_simp; (try with_reducible rfl); done)); (try simp only [Act.put, zPA, zPZ, zPS]))
        (refine zTK 3 (oi := ?_) (v := ?_) ?_ ?_ (Or.inl ⟨?_, ?_⟩) ?_; rotate_left 2; (focus (simp only [zGA, zGZ, zGS] <;> rfl)); (focus (exact fun _ _ _ h => h)); (focus rfl); (focus (intro w hSw; (try dsimp only at hSw); go_simp; (try with_reducible rfl); done)); (try simp only [Act.put, zPA, zPZ, zPS]))
        refine wpAnyH_ready (rs := [0, 5]) (by kernel_rfl) (by simp) ?_
        refine AllReadyH.cons (o := ?_) ?_ ?_ ?_
        rotate_left 1
        (focus (simp only [zGA, zGZ, zGS] <;> rfl))
        · intro K hK
          go_simp
          go_at_call 27
          refine (new_any _).mono ?_
          rintro e dN ⟨rfl, hqN, hN0, hN1⟩
          have qN := q0.trans hqN
          have htl := (tree_new hqN hN0 hN1).mono (D' := fun k => d0.heap.size ≤ k ∧ k < dN.heap.size) (fun k a b => ⟨a, b⟩)
          have hzN := hqN.size
          have hzn := q0.size
          obtain ⟨nb, hnb⟩ : ∃ nb, d0.heap.size + 1 = nb := ⟨_, rfl⟩
          rw [hnb] at htl ⊢
          clear hqN hN0 hN1 hnb
          dsimp only
          refine hK.out _ _ ?_ (fun hHeld => ?_)
          · exact HS7.out _ qN
          clear hK K
          (try simp only [Act.put, zPA, zPZ, zPS])
          refine wpAnyH_ready (rs := [4, 5]) (by kernel_rfl) (by simp) ?_
          refine AllReadyH.cons (o := ?_) ?_ ?_ ?_
          rotate_left 1
          (focus (simp only [zGA, zGZ, zGS] <;> rfl))
          · intro K hK
            go_simp
            go_at_call 28
            refine (HTBL.out _ qN).mono ?_
            rintro e dT ⟨A2, c2, rfl, hqT, hrT, hcT⟩
            have qT := qN.trans hqT
            have htl := htl.kept hqT (fun _ _ x => x)
            have hrl := rd_in hrT
            have hzT := hqT.size
            clear hqT hrT
            unfold tabV
            dsimp only
            refine hK.out _ _ ?_ (fun hHeld => ?_)
            · exact HS7.out _ qT
            clear hK K
            (try simp only [Act.put, zPA, zPZ, zPS])
            refine wpAnyH_ready (rs := [5]) (by kernel_rfl) (by simp) ?_
            refine AllReadyH.cons (o := ?_) ?_ ?_ AllReadyH.nil
            rotate_left 1
            (focus (simp only [zGA, zGZ, zGS] <;> rfl))
            intro K hK
            go_simp
            refine hK.out _ _ ?_ (fun hHeld => ?_)
            · exact HS7.out _ (qT.alloc _)
            clear hK K
            (try simp only [Act.put, zPA, zPZ, zPS])
            have qA : Quiet W1 (dT.alloc (.cells #[.int .u64 0, .string ⟨#[]⟩, .slice none 0 0, .int .u64 0, .int .u64 0] 86)) := qT.alloc _
            have hb1 := alloc_new dT (.cells #[.int .u64 0, .string ⟨#[]⟩, .slice none 0 0, .int .u64 0, .int .u64 0] 86)
            have hnp : W1.heap.size ≤ dT.heap.size := qT.size
            have htl := htl.kept ((Only.refl (fun _ => False) dT).alloc (.cells #[.int .u64 0, .string ⟨#[]⟩, .slice none 0 0, .int .u64 0, .int .u64 0] 86)) (fun _ _ x => x)
            have hrl := hrl.kept ((Only.refl (fun _ => False) dT).alloc (.cells #[.int .u64 0, .string ⟨#[]⟩, .slice none 0 0, .int .u64 0, .int .u64 0] 86)) (fun _ _ x => x)
            have hzA := lt_of_get hb1
            obtain ⟨tq, htq⟩ : ∃ tq, dT.heap.size = tq := ⟨_, rfl⟩
            rw [htq] at hb1 hnp hzA ⊢
            generalize dT.alloc (.cells #[.int .u64 0, .string ⟨#[]⟩, .slice none 0 0, .int .u64 0, .int .u64 0] 86) = dA at *
            have z0 := cell_of hb1 0
            have z1 := cell_of hb1 1
            have z2 := cell_of hb1 2
            have z3 := cell_of hb1 3
            have z4 := cell_of hb1 4
            have zf := fun o => frozen_of hb1 o
            simp only [zGA, zGS, zGZ] at z0 z1 z2 z3 z4
            (refine zTK 6 (oi := ?_) (v := ?_) ?_ ?_ (Or.inl ⟨?_, ?_⟩) ?_; rotate_left 2; (focus (simp only [zGA, zGZ, zGS] <;> rfl)); (focus (exact fun _ _ _ h => h)); (focus rfl); (focus (intro w hSw; (try dsimp only at hSw); go_simp; (try with_reducible rfl); done)); (try simp only [Act.put, zPA, zPZ, zPS]))
            refine wpAnyH_ready (rs := [7]) (by kernel_rfl) (by simp) ?_
            refine AllReadyH.cons (o := ?_) ?_ ?_ AllReadyH.nil
            rotate_left 1
            (focus (simp only [zGA, zGZ, zGS] <;> rfl))
            intro K hK
            go_simp
            refine hK.out _ _ ?_ (fun hHeld => ?_)
            · exact HS7.out _ (new_leaf (B1 := dN.heap.size) (t := t) qA htl (fun k hk => by omega) hb1 hnp hrl (fun k hk => by omega) hcT ⟨by omega, by omega⟩).quiet
            clear hK K
            (try simp only [Act.put, zPA, zPZ, zPS])
            have HG := new_leaf (B1 := dN.heap.size) (t := t) qA htl (fun k hk => by omega) hb1 hnp hrl (fun k hk => by omega) hcT ⟨by omega, by omega⟩
            unfold fiveSet at HG
            refine wpAnyH_done (by kernel_rfl) ?_ _
            generalize (((((dA.setCell ⟨tq, 0, none⟩ (.int .u64 (t.id : Int))).setCell ⟨tq, 1, none⟩ (.string t.name)).setCell ⟨tq, 2, none⟩ (.slice A2 t.cols.length c2)).setCell ⟨tq, 3, none⟩ (.int .u64 (t.xmin : Int))).setCell ⟨tq, 4, none⟩ (.int .u64 (t.xmax : Int))) = WF at HG ⊢
            generalize dN.heap.size = BN at HG
            exact KEY _ _ _ _ _ _ HG
          refine AllReadyH.cons (o := ?_) ?_ ?_ AllReadyH.nil
          rotate_left 1
          (focus (simp only [zGA, zGZ, zGS] <;> rfl))
          intro K hK
          go_simp
          refine hK.out _ _ ?_ (fun hHeld => ?_)
          · exact HS7.out _ (qN.alloc _)
          clear hK K
          (try simp only [Act.put, zPA, zPZ, zPS])
          have qA : Quiet W1 (dN.alloc (.cells #[.int .u64 0, .string ⟨#[]⟩, .slice none 0 0, .int .u64 0, .int .u64 0] 86)) := qN.alloc _
          have hb1 := alloc_new dN (.cells #[.int .u64 0, .string ⟨#[]⟩, .slice none 0 0, .int .u64 0, .int .u64 0] 86)
          have hnp : W1.heap.size ≤ dN.heap.size := qN.size
          have htl := htl.kept ((Only.refl (fun _ => False) dN).alloc (.cells #[.int .u64 0, .string ⟨#[]⟩, .slice none 0 0, .int .u64 0, .int .u64 0] 86)) (fun _ _ x => x)
          have hzA := lt_of_get hb1
          obtain ⟨tq, htq⟩ : ∃ tq, dN.heap.size = tq := ⟨_, rfl⟩
          rw [htq] at hb1 hnp hzA ⊢
          generalize dN.alloc (.cells #[.int .u64 0, .string ⟨#[]⟩, .slice none 0 0, .int .u64 0, .int .u64 0] 86) = dA at *
          refine wpAnyH_ready (rs := [4]) (by kernel_rfl) (by simp) ?_
          refine AllReadyH.cons (o := ?_) ?_ ?_ AllReadyH.nil
          rotate_left 1
          (focus (simp only [zGA, zGZ, zGS] <;> rfl))
          intro K hK
          go_simp
          go_at_call 28
          refine (HTBL.out _ qA).mono ?_
          rintro e dT ⟨A2, c2, rfl, hqT, hrT, hcT⟩
          have qT := qA.trans hqT
          have htl := htl.kept hqT (fun _ _ x => x)
          have hrl := rd_in hrT
          have hzT := hqT.size
          have hb1 := hqT.get hb1 (fun x => x)
          clear hqT hrT
          unfold tabV
          dsimp only
          refine hK.out _ _ ?_ (fun hHeld => ?_)
          · exact HS7.out _ qT
          clear hK K
          (try simp only [Act.put, zPA, zPZ, zPS])
          have z0 := cell_of hb1 0
          have z1 := cell_of hb1 1
          have z2 := cell_of hb1 2
          have z3 := cell_of hb1 3
          have z4 := cell_of hb1 4
          have zf := fun o => frozen_of hb1 o
          simp only [zGA, zGS, zGZ] at z0 z1 z2 z3 z4
          (refine zTK 6 (oi := ?_) (v := ?_) ?_ ?_ (Or.inl ⟨?_, ?_⟩) ?_; rotate_left 2; (focus (simp only [zGA, zGZ, zGS] <;> rfl)); (focus (exact fun _ _ _ h => h)); (focus rfl); (focus (intro w hSw; (try dsimp only at hSw); go_simp; (try with_reducible rfl); done)); (try simp only [Act.put, zPA, zPZ, zPS]))
          refine wpAnyH_ready (rs := [7]) (by kernel_rfl) (by simp) ?_
          refine AllReadyH.cons (o := ?_) ?_ ?_ AllReadyH.nil
          rotate_left 1
          (focus (simp only [zGA, zGZ, zGS] <;> rfl))
          intro K hK
          go_simp
          refine hK.out _ _ ?_ (fun hHeld => ?_)
          · exact HS7.out _ (new_leaf (B1 := dN.heap.size) (t := t) qT htl (fun k hk => by omega) hb1 hnp hrl (fun k hk => by omega) hcT ⟨by omega, by omega⟩).quiet
          clear hK K
          (try simp only [Act.put, zPA, zPZ, zPS])
          have HG := new_leaf (B1 := dN.heap.size) (t := t) qT htl (fun k hk => by omega) hb1 hnp hrl (fun k hk => by omega) hcT ⟨by omega, by omega⟩
          unfold fiveSet at HG
          refine wpAnyH_done (by kernel_rfl) ?_ _
          generalize (((((dT.setCell ⟨tq, 0, none⟩ (.int .u64 (t.id : Int))).setCell ⟨tq, 1, none⟩ (.string t.name)).setCell ⟨tq, 2, none⟩ (.slice A2 t.cols.length c2)).setCell ⟨tq, 3, none⟩ (.int .u64 (t.xmin : Int))).setCell ⟨tq, 4, none⟩ (.int .u64 (t.xmax : Int))) = WF at HG ⊢
          generalize dN.heap.size = BN at HG
          exact KEY _ _ _ _ _ _ HG
        refine AllReadyH.cons (o := ?_) ?_ ?_ AllReadyH.nil
        rotate_left 1
        (focus (simp only [zGA, zGZ, zGS] <;> rfl))
        intro K hK
        go_simp
        refine hK.out _ _ ?_ (fun hHeld => ?_)
        · exact HS7.out _ (q0.alloc _)
        clear hK K
        (try simp only [Act.put, zPA, zPZ, zPS])
        have qA : Quiet W1 (d0.alloc (.cells #[.int .u64 0, .string ⟨#[]⟩, .slice none 0 0, .int .u64 0, .int .u64 0] 86)) := q0.alloc _
        have hb1 := alloc_new d0 (.cells #[.int .u64 0, .string ⟨#[]⟩, .slice none 0 0, .int .u64 0, .int .u64 0] 86)
        have hnp : W1.heap.size ≤ d0.heap.size := q0.size
        have hzA := lt_of_get hb1
        obtain ⟨tq, htq⟩ : ∃ tq, d0.heap.size = tq := ⟨_, rfl⟩
        rw [htq] at hb1 hnp hzA ⊢
        generalize d0.alloc (.cells #[.int .u64 0, .string ⟨#[]⟩, .slice none 0 0, .int .u64 0, .int .u64 0] 86) = dA at *
        refine wpAnyH_ready (rs := [0]) (by kernel_rfl) (by simp) ?_
        refine AllReadyH.cons (o := ?_) ?_ ?_ AllReadyH.nil
        rotate_left 1
        (focus (simp only [zGA, zGZ, zGS] <;> rfl))
        intro K hK
        go_simp
        go_at_call 27
        refine (new_any _).mono ?_
        rintro e dN ⟨rfl, hqN, hN0, hN1⟩
        have qN := qA.trans hqN
        have htl := (tree_new hqN hN0 hN1).mono (D' := fun k => dA.heap.size ≤ k ∧ k < dN.heap.size) (fun k a b => ⟨a, b⟩)
        have hzN := hqN.size
        have hzn := qA.size
        obtain ⟨nb, hnb⟩ : ∃ nb, dA.heap.size + 1 = nb := ⟨_, rfl⟩
        rw [hnb] at htl ⊢
        have hb1 := hqN.get hb1 (fun x => x)
        clear hqN hN0 hN1 hnb
        dsimp only
        refine hK.out _ _ ?_ (fun hHeld => ?_)
        · exact HS7.out _ qN
        clear hK K
        (try simp only [Act.put, zPA, zPZ, zPS])
        refine wpAnyH_ready (rs := [4]) (by kernel_rfl) (by simp) ?_
        refine AllReadyH.cons (o := ?_) ?_ ?_ AllReadyH.nil
        rotate_left 1
        (focus (simp only [zGA, zGZ, zGS] <;> rfl))
        intro K hK
        go_simp
        go_at_call 28
        refine (HTBL.out _ qN).mono ?_
        rintro e dT ⟨A2, c2, rfl, hqT, hrT, hcT⟩
        have qT := qN.trans hqT
        have htl := htl.kept hqT (fun _ _ x => x)
        have hrl := rd_in hrT
        have hzT := hqT.size
        have hb1 := hqT.get hb1 (fun x => x)
        clear hqT hrT
        unfold tabV
        dsimp only
        refine hK.out _ _ ?_ (fun hHeld => ?_)
        · exact HS7.out _ qT
        clear hK K
        (try simp only [Act.put, zPA, zPZ, zPS])
        have z0 := cell_of hb1 0
        have z1 := cell_of hb1 1
        have z2 := cell_of hb1 2
        have z3 := cell_of hb1 3
        have z4 := cell_of hb1 4
        have zf := fun o => frozen_of hb1 o
        simp only [zGA, zGS, zGZ] at z0 z1 z2 z3 z4
        (refine zTK 6 (oi := ?_) (v := ?_) ?_ ?_ (Or.inl ⟨?_, ?_⟩) ?_; rotate_left 2; (focus (simp only [zGA, zGZ, zGS] <;> rfl)); (focus (exact fun _ _ _ h => h)); (focus rfl); (focus (intro w hSw; (try dsimp only at hSw); go_simp; (try with_reducible rfl); done)); (try simp only [Act.put, zPA, zPZ, zPS]))
        refine wpAnyH_ready (rs := [7]) (by kernel_rfl) (by simp) ?_
        refine AllReadyH.cons (o := ?_) ?_ ?_ AllReadyH.nil
        rotate_left 1
        (focus (simp only [zGA, zGZ, zGS] <;> rfl))
        intro K hK
        go_simp
        refine hK.out _ _ ?_ (fun hHeld => ?_)
        · exact HS7.out _ (new_leaf (B1 := dN.heap.size) (t := t) qT htl (fun k hk => by omega) hb1 hnp hrl (fun k hk => by omega) hcT ⟨by omega, by omega⟩).quiet
        clear hK K
        (try simp only [Act.put, zPA, zPZ, zPS])
        have HG := new_leaf (B1 := dN.heap.size) (t := t) qT htl (fun k hk => by omega) hb1 hnp hrl (fun k hk => by omega) hcT ⟨by omega, by omega⟩
        unfold fiveSet at HG
        refine wpAnyH_done (by kernel_rfl) ?_ _
        generalize (((((dT.setCell ⟨tq, 0, none⟩ (.int .u64 (t.id : Int))).setCell ⟨tq, 1, none⟩ (.string t.name)).setCell ⟨tq, 2, none⟩ (.slice A2 t.cols.length c2)).setCell ⟨tq, 3, none⟩ (.int .u64 (t.xmin : Int))).setCell ⟨tq, 4, none⟩ (.int .u64 (t.xmax : Int))) = WF at HG ⊢
        generalize dN.heap.size = BN at HG
        exact KEY _ _ _ _ _ _ HG
    case key =>
      intro nb tq B1 A2 c2 W HN0
      have HNL := Lib.hid HN0
      clear HN0 HS7 HTBL
      have HHZ : Hid (Calls Tryz.prog 29 #[ptrV sb] W (StoreHorPost W { s with T := [t], I := [⟨nid, name, t.id, 0, y.own, 0⟩], blast := nid })) := store_horizon (HSA.out.quietly HNL.out.quiet) HNN.out.1 HNN.out.2.1 HNN.out.2.2
      go_wp2_with fail
      refine HHZ.out.mono ?_
      rintro e W2 ⟨hz0, rfl, _, hqz⟩
      have HQZ : Hid (Quiet W1 W2) := HNL.out.quiet.trans hqz
      have HPLC : Hid (Calls Tryz.prog 30 #[ptrV sb, .int .u64 (t.id : Int)] W2 (ChainPost W2 (placesH H H.length))) := store_places (HSA.out.quietly HQZ.out) HID.out HHH.out (fun k hk => by have := HPL.out k hk; omega)
      have hx2 := HQZ.out.get HBX.out (fun x => x)
      have xc2 : W2.cell? ⟨xi, 2, none⟩ = some (.int .u64 (t.id : Int)) := by rw [cell_of hx2]; rfl
      have lxi := lt_of_get hx2
      clear hx2 HHZ
      go_wp2_with fail
      refine HPLC.out.mono ?_
      rintro e W3 ⟨vp, rfl, hqp, hnp, hrp⟩
      obtain ⟨A3, c3, rfl, hc3, hm3, hrd3⟩ := own_form hrp
      have HQ3 : Hid (Quiet W1 W3) := HQZ.out.trans hqp
      have HNQ : Hid (Quiet W W3) := hqz.trans hqp
      obtain ⟨pl, hpl⟩ : ∃ pl, placesH H H.length = pl := ⟨_, rfl⟩
      have HPN : Hid (∀ a ∈ pl, ∃ v, hGet H a.1 a.2 = some v) := by rw [← hpl]; exact fun a ha => placesH_get ha
      have HLEN : Hid (pl.length ≤ 10000) := by rw [← hpl]; exact HPL.out H.length (Nat.le_refl _)
      rw [hpl] at hrd3 hc3 ⊢
      have HPLE := Lib.hid hpl
      obtain ⟨m, hm⟩ : ∃ m, pl.length = m := ⟨_, rfl⟩
      rw [hm] at HLEN hc3
      have HM := Lib.hid hm
      have HRP : Hid (Rd W3 (fun k => W2.heap.size ≤ k ∧ k < W3.heap.size) 2 A3 pl.length (tidsV pl)) := (rd_in hrd3).mono (fun k hk => ⟨by rw [hpl] at hnp; exact hnp k hk.1, hk.2⟩)
      rw [hm]
      unfold maxLen at hm3
      obtain ⟨D0, hD0⟩ : ∃ D0 : Nat → Prop, (fun k => W1.heap.size ≤ k ∧ k < B1 ∧ k ≠ tq) = D0 := ⟨_, rfl⟩
      have HD0 : Hid (∀ k, D0 k → W1.heap.size ≤ k ∧ k < B1 ∧ k ≠ tq) := by rw [← hD0]; exact fun k hk => hk
      have HT3 : Hid (TreeIs W3 (fun j => D0 j ∨ W3.heap.size ≤ j) nb (buildE H s.L hz0 (pl.take 0))) := by
        have h1 := HNL.out.tree.kept HNQ.out (fun _ _ x => x)
        rw [hD0] at h1
        exact h1.mono (fun k a _ => Or.inl a)
      have HB3 : Hid (W3.heap[tq]? = some (.cells #[.int .u64 (t.id : Int), .string t.name, .slice A2 t.cols.length c2, .int .u64 (t.xmin : Int), .int .u64 (t.xmax : Int)] 86 (0, 0)) ∧ W3.heap[xi]? = some (.cells #[.int .u64 (nid : Int), .string name, .int .u64 (t.id : Int), .int .i64 0, .int .u64 (y.own : Int), .int .u64 0] 80 (0, 0))) := ⟨HNQ.out.get HNL.out.box (fun x => x), HQ3.out.get HBX.out (fun x => x)⟩
      have HCL3 : Hid (Rd W3 (fun k => B1 ≤ k ∧ k ≠ tq) 2 A2 t.cols.length (colsV t.cols)) := HNL.out.cols.1.kept HNQ.out (fun _ _ x => x)
      have HZ : Hid (xi < W1.heap.size ∧ W1.heap.size ≤ tq ∧ tq < W3.heap.size ∧ W1.heap.size ≤ W3.heap.size ∧ B1 ≤ W2.heap.size ∧ W2.heap.size ≤ W3.heap.size) := ⟨lt_of_get HBX.out, HNL.out.new, lt_of_get HB3.out.1, HQ3.out.size, Nat.le_trans HNL.out.big.2 hqz.size, hqp.size⟩
      clear hqz hqp hnp hrp hrd3 hpl hm HPLC xc2 lxi hD0
      go_wp2_with fail
      go_loopw [61, 19, 20, 21] (fun i _ _ _ wr => ∃ k : Nat, k ≤ m ∧ i = .int .i64 (k : Int) ∧ Only D0 W3 wr ∧ TreeIs wr (fun j => D0 j ∨ W3.heap.size ≤ j) nb (buildE H s.L hz0 (pl.take k))) (fun i _ _ _ _ => m - (intOf i).toNat)
      case atStart => exact ⟨0, Nat.zero_le _, rfl, Only.refl _ _, HT3.out⟩
      case round =>
        obtain ⟨k, hk, rfl, ho, htr⟩ := hrel
        have HO := Lib.hid ho
        have HTR := Lib.hid htr
        clear ho htr
        have HOW : Hid (Only D0 W1 wr) := (HQ3.out.mono (fun _ _ x => x.elim)).trans HO.out
        have HSR : Hid (StoreRow wr sb o1 { s with T := [t], I := [⟨nid, name, t.id, 0, y.own, 0⟩], blast := nid } lb bb pb mh mt ms fh ft fs) := HST.out.kept HOW.out (fun k x => HST.out.big k (HD0.out k x).1)
        by_cases hlt : k < m
        · obtain ⟨⟨pg, sl⟩, ha⟩ : ∃ a, pl[k]? = some a := ⟨_, List.getElem?_eq_getElem (by have := HM.out; omega)⟩
          obtain ⟨v, hgv⟩ := HPN.out (pg, sl) (List.mem_of_getElem? ha)
          obtain ⟨hx1, hx2, n, hn, hdat⟩ := HINT.out pg sl v hgv
          obtain ⟨bl, ofl, rfl, _, la, lb2⟩ := place_cells (HRP.out.kept HO.out (fun k hk e => by have := HD0.out k e; have := HZ.out; omega)) ha
          have HV1 := Lib.hid (And.intro hx1 hx2)
          have HNV := Lib.hid (And.intro hn hdat)
          obtain ⟨es, hes⟩ : ∃ es, buildE H s.L hz0 (pl.take k) = es := ⟨_, rfl⟩
          have HEL : Hid (es.length ≤ 10000) := by
            rw [← hes]
            have h1 := buildE_len H s.L hz0 (pl.take k)
            rw [List.length_take] at h1
            have := HLEN.out
            show (buildE H s.L hz0 (pl.take k)).length ≤ 10000
            omega
          have HBS : Hid (buildE H s.L hz0 (pl.take (k + 1)) = if deadS s.L v.xmin v.xmax hz0 then es else putE ⟨keyI n, pg, sl⟩ es) := by
            show _ = _
            rw [List.take_add_one, ha, Option.toList_some, buildE_snoc, hes]
            show (match hGet H pg sl with | some v => if deadS s.L v.xmin v.xmax hz0 then es else putE ⟨keyI (numOf v.data), pg, sl⟩ es | none => es) = _
            rw [hgv]
            show (if deadS s.L v.xmin v.xmax hz0 then es else putE ⟨keyI (numOf v.data), pg, sl⟩ es) = _
            rw [hdat, numOf_row]
          rw [hes] at HTR
          have HGV := Lib.hid hgv
          have hqb : Quiet wr (wr.alloc (.cells #[.int .i64 pg, .int .i64 sl] 41)) := (Only.refl _ _).alloc _
          have hat := alloc_new wr (.cells #[.int .i64 pg, .int .i64 sl] 41)
          obtain ⟨at_, hat_⟩ : ∃ at_, wr.heap.size = at_ := ⟨_, rfl⟩
          have HAT_ := Lib.hid hat_
          dsimp only at la lb2
          clear ha hgv hx1 hx2 hn hdat hes
          go_wp2_with fail
          (try rw [hat_] at hat)
          (try rw [hat_])
          generalize wr.alloc (.cells #[.int .i64 pg, .int .i64 sl] 41) = wb at *
          have HQB := Lib.hid hqb
          have HAT := Lib.hid hat
          clear la lb2 hat hqb hat_
          have hx3 : wr.heap[xi]? = _ := HO.out.get HB3.out.2 (fun x => by have := HD0.out _ x; have := HZ.out; omega)
          have HXR := Lib.hid hx3
          have HTQR := Lib.hid (HO.out.get HB3.out.1 (fun x => (HD0.out _ x).2.2 rfl))
          clear hx3
          have HS5 : Hid (∀ W, Quiet wb W → (fun w' => w'.cell? ⟨sb, 3, none⟩ = some (.map (some mh)) ∧ w'.cell? ⟨xi, 2, none⟩ = some (.int .u64 (t.id : Int)) ∧ w'.cell? ⟨at_, 0, none⟩ = some (.int .i64 pg) ∧ w'.cell? ⟨at_, 1, none⟩ = some (.int .i64 sl) ∧ (Instr.lookup 63 (.map (some mh)) (.int .u64 (t.id : Int)) false).run Tryz.prog w' = .ok (ptrV hb) w') W) := fun W hq => by
            have hq2 := HQB.out.trans hq
            have h2 := HSR.out.quietly hq2
            have bx := hq2.get HXR.out (fun x => x)
            have b7 := hq.get HAT.out (fun x => x)
            exact ⟨h2.cells.2.2.2.1, by rw [cell_of bx]; rfl, by rw [cell_of b7]; rfl, by rw [cell_of b7]; rfl, look_heap h2.mH HFH.out HID.out⟩
          have HGET : Hid (∀ W, Quiet wb W → Calls Tryz.prog 31 #[ptrV hb, .agg #[.int .i64 pg, .int .i64 sl]] W (GetSome W v)) := fun W hq => by
            have h2 := (HHP.out.kept (HQ2.out.mono (T := fun k => o k = 3) (fun _ _ x => x.elim)) (fun _ hk x => by omega)).kept HL.out.only (fun _ hk x => by omega)
            have h3 := h2.lim.kept HOW.out (fun k hk x => by have := (HD0.out k x).1; have := hk.2; omega)
            exact heap_get_some pg sl v ((h3.kept HQB.out (fun _ _ x => x)).kept hq (fun _ _ x => x)) HGV.out
          apply got_key (wb := wb) (t := v)
          case main =>
                intro KEY
                refine wp_region_held_drew (S := (fun w' => w'.cell? ⟨sb, 3, none⟩ = some (.map (some mh)) ∧ w'.cell? ⟨xi, 2, none⟩ = some (.int .u64 (t.id : Int)) ∧ w'.cell? ⟨at_, 0, none⟩ = some (.int .i64 pg) ∧ w'.cell? ⟨at_, 1, none⟩ = some (.int .i64 sl) ∧ (Instr.lookup 63 (.map (some mh)) (.int .u64 (t.id : Int)) false).run Tryz.prog w' = .ok (ptrV hb) w')) (by kernel_rfl) (HS5.out _ (Only.refl _ _).drew) (fun hHeld => ?_)
                simp only [List.size_toArray, List.length_cons, List.length_nil, Nat.reduceAdd]
                have q0 : Quiet wb wb.drew := (Only.refl _ _).drew
                generalize wb.drew = d0 at q0 hHeld ⊢
                (refine zTK 0 (oi := ?_) (v := ?_) ?_ ?_ (Or.inl ⟨?_, ?_⟩) ?_; rotate_left 2; (focus (simp only [zGA, zGZ, zGS] <;> rfl)); (focus (exact fun _ _ _ h => h)); (focus rfl); (focus (intro w hSw; (try dsimp only at hSw); go_simp; (try with_reducible rfl); done)); (try simp only [Act.put, zPA, zPZ, zPS]))
                (refine zTK 1 (oi := ?_) (v := ?_) ?_ ?_ (Or.inl ⟨?_, ?_⟩) ?_; rotate_left 2; (focus (simp only [zGA, zGZ, zGS] <;> rfl)); (focus (exact fun _ _ _ h => h)); (focus rfl); (focus (intro w hSw; (try dsimp only at hSw); go_simp; (try with_reducible rfl); done)); (try simp only [Act.put, zPA, zPZ, zPS]))
                (refine zTK 2 (oi := ?_) (v := ?_) ?_ ?_ (Or.inl ⟨?_, ?_⟩) ?_; rotate_left 2; (focus (simp only [zGA, zGZ, zGS] <;> rfl)); (focus (exact fun _ _ _ h => h)); (focus rfl); (focus (intro w hSw; (try dsimp only at hSw); go_simp; (try with_reducible rfl); done)); (try simp only [Act.put, zPA, zPZ, zPS]))
                (refine zTK 3 (oi := ?_) (v := ?_) ?_ ?_ (Or.inl ⟨?_, ?_⟩) ?_; rotate_left 2; (focus (simp only [zGA, zGZ, zGS] <;> rfl)); (focus (exact fun _ _ _ h => h)); (focus rfl); (focus (intro w hSw; (try dsimp only at hSw); go_simp; (try with_reducible rfl); done)); (try simp only [Act.put, zPA, zPZ, zPS]))
                (refine zTK 4 (oi := ?_) (v := ?_) ?_ ?_ (Or.inl ⟨?_, ?_⟩) ?_; rotate_left 2; (focus (simp only [zGA, zGZ, zGS] <;> rfl)); (focus (exact fun _ _ _ h => h)); (focus rfl); (focus (intro w hSw; (try dsimp only at hSw); go_simp; (try with_reducible rfl); done)); (try simp only [Act.put, zPA, zPZ, zPS]))
                (refine zTK 5 (oi := ?_) (v := ?_) ?_ ?_ (Or.inl ⟨?_, ?_⟩) ?_; rotate_left 2; (focus (simp only [zGA, zGZ, zGS] <;> rfl)); (focus (exact fun _ _ _ h => h)); (focus rfl); (focus (intro w hSw; (try dsimp only at hSw); go_simp; (try with_reducible rfl); done)); (try simp only [Act.put, zPA, zPZ, zPS]))
                (refine zTK 6 (oi := ?_) (v := ?_) ?_ ?_ (Or.inl ⟨?_, ?_⟩) ?_; rotate_left 2; (focus (simp only [zGA, zGZ, zGS] <;> rfl)); (focus (exact fun _ _ _ h => h)); (focus rfl); (focus (intro w hSw; (try dsimp only at hSw); go_simp; (try with_reducible rfl); done)); (try simp only [Act.put, zPA, zPZ, zPS]))
                (refine zTK 7 (oi := ?_) (v := ?_) ?_ ?_ (Or.inl ⟨?_, ?_⟩) ?_; rotate_left 2; (focus (simp only [zGA, zGZ, zGS] <;> rfl)); (focus (exact fun _ _ _ h => h)); (focus rfl); (focus (intro w hSw; (try dsimp only at hSw); go_simp; (try with_reducible rfl); done)); (try simp only [Act.put, zPA, zPZ, zPS]))
                refine wpAnyH_ready (rs := [8, 12]) (by kernel_rfl) (by simp) ?_
                refine AllReadyH.cons (o := ?_) ?_ ?_ ?_
                rotate_left 1
                (focus (simp only [zGA, zGZ, zGS] <;> rfl))
                · intro K hK
                  go_simp
                  go_at_call 31
                  refine (HGET.out _ q0).mono ?_
                  rintro e d2 ⟨A4, c4, rfl, hf4⟩
                  have q2 := q0.trans hf4.quiet
                  have hown := hf4.own
                  have hfn : ∀ k, (Value.slice A4 v.data.length c4).ownBlock = some k → wb.heap.size ≤ k := fun k e => Nat.le_trans (q0).size (hf4.new k e)
                  clear hf4
                  unfold tupV
                  dsimp only
                  refine hK.out _ _ ?_ (fun hHeld => ?_)
                  · exact HS5.out _ q2
                  clear hK K
                  (try simp only [Act.put, zPA, zPZ, zPS])
                  (refine zTK 9 (oi := ?_) (v := ?_) ?_ ?_ (Or.inl ⟨?_, ?_⟩) ?_; rotate_left 2; (focus (simp only [zGA, zGZ, zGS] <;> rfl)); (focus (exact fun _ _ _ h => h)); (focus rfl); (focus (intro w hSw; (try dsimp only at hSw); go_simp; (try with_reducible rfl); done)); (try simp only [Act.put, zPA, zPZ, zPS]))
                  (refine zTK 10 (oi := ?_) (v := ?_) ?_ ?_ (Or.inl ⟨?_, ?_⟩) ?_; rotate_left 2; (focus (simp only [zGA, zGZ, zGS] <;> rfl)); (focus (exact fun _ _ _ h => h)); (focus rfl); (focus (intro w hSw; (try dsimp only at hSw); go_simp; (try with_reducible rfl); done)); (try simp only [Act.put, zPA, zPZ, zPS]))
                  (refine zTK 11 (oi := ?_) (v := ?_) ?_ ?_ (Or.inl ⟨?_, ?_⟩) ?_; rotate_left 2; (focus (simp only [zGA, zGZ, zGS] <;> rfl)); (focus (exact fun _ _ _ h => h)); (focus rfl); (focus (intro w hSw; (try dsimp only at hSw); go_simp; (try with_reducible rfl); done)); (try simp only [Act.put, zPA, zPZ, zPS]))
                  refine wpAnyH_ready (rs := [12]) (by kernel_rfl) (by simp) ?_
                  refine AllReadyH.cons (o := ?_) ?_ ?_ AllReadyH.nil
                  rotate_left 1
                  (focus (simp only [zGA, zGZ, zGS] <;> rfl))
                  intro K hK
                  go_simp
                  refine hK.out _ _ ?_ (fun hHeld => ?_)
                  · exact HS5.out _ (q2.alloc _)
                  clear hK K
                  (try simp only [Act.put, zPA, zPZ, zPS])
                  have qd3 : Quiet wb (d2.alloc (.cells #[.int .u64 0, .int .u64 0, .int .u64 0, .int .i64 0, .int .i64 0, .slice none 0 0] 92)) := q2.alloc _
                  have hb1 := alloc_new d2 (.cells #[.int .u64 0, .int .u64 0, .int .u64 0, .int .i64 0, .int .i64 0, .slice none 0 0] 92)
                  have hnp : wb.heap.size ≤ d2.heap.size := q2.size
                  have hown := owns_kept hown ((Only.refl (fun _ => False) d2).alloc (.cells #[.int .u64 0, .int .u64 0, .int .u64 0, .int .i64 0, .int .i64 0, .slice none 0 0] 92)) (fun _ _ x => x)
                  obtain ⟨pt, hpt⟩ : ∃ pt, d2.heap.size = pt := ⟨_, rfl⟩
                  rw [hpt] at hb1 hnp ⊢
                  generalize d2.alloc (.cells #[.int .u64 0, .int .u64 0, .int .u64 0, .int .i64 0, .int .i64 0, .slice none 0 0] 92) = d3 at *
                  clear hpt
                  have z0 := cell_of hb1 0
                  have z1 := cell_of hb1 1
                  have z2 := cell_of hb1 2
                  have z3 := cell_of hb1 3
                  have z4 := cell_of hb1 4
                  have z5 := cell_of hb1 5
                  have zf := fun o => frozen_of hb1 o
                  simp only [zGA, zGS, zGZ] at z0 z1 z2 z3 z4 z5
                  refine wpAnyH_ready (rs := [13]) (by kernel_rfl) (by simp) ?_
                  refine AllReadyH.cons (o := ?_) ?_ ?_ AllReadyH.nil
                  rotate_left 1
                  (focus (simp only [zGA, zGZ, zGS] <;> rfl))
                  intro K hK
                  go_simp
                  refine hK.out _ _ ?_ (fun hHeld => ?_)
                  · exact HS5.out _ (got_leaf qd3 hb1 hnp hown hfn).quiet
                  clear hK K
                  (try simp only [Act.put, zPA, zPZ, zPS])
                  have HG := got_leaf qd3 hb1 hnp hown hfn
                  unfold sixSet at HG
                  (refine zTK 14 (oi := ?_) (v := ?_) ?_ ?_ (Or.inl ⟨?_, ?_⟩) ?_; rotate_left 2; (focus (simp only [zGA, zGZ, zGS] <;> rfl)); (focus (exact fun _ _ _ h => h)); (focus rfl); (focus (intro w hSw; (try dsimp only at hSw); go_simp; (try with_reducible rfl); done)); (try simp only [Act.put, zPA, zPZ, zPS]))
                  refine wpAnyH_done (by kernel_rfl) ?_ _
                  generalize ((((((d3.setCell ⟨pt, 0, none⟩ (.int .u64 v.row)).setCell ⟨pt, 1, none⟩ (.int .u64 v.xmin)).setCell ⟨pt, 2, none⟩ (.int .u64 v.xmax)).setCell ⟨pt, 3, none⟩ (.int .i64 v.pg)).setCell ⟨pt, 4, none⟩ (.int .i64 v.sl)).setCell ⟨pt, 5, none⟩ (.slice A4 v.data.length c4)) = WF at HG ⊢
                  exact KEY _ _ _ _ HG
                refine AllReadyH.cons (o := ?_) ?_ ?_ AllReadyH.nil
                rotate_left 1
                (focus (simp only [zGA, zGZ, zGS] <;> rfl))
                intro K hK
                go_simp
                refine hK.out _ _ ?_ (fun hHeld => ?_)
                · exact HS5.out _ (q0.alloc _)
                clear hK K
                (try simp only [Act.put, zPA, zPZ, zPS])
                have qd1 : Quiet wb (d0.alloc (.cells #[.int .u64 0, .int .u64 0, .int .u64 0, .int .i64 0, .int .i64 0, .slice none 0 0] 92)) := q0.alloc _
                have hb1 := alloc_new d0 (.cells #[.int .u64 0, .int .u64 0, .int .u64 0, .int .i64 0, .int .i64 0, .slice none 0 0] 92)
                have hnp : wb.heap.size ≤ d0.heap.size := q0.size
                obtain ⟨pt, hpt⟩ : ∃ pt, d0.heap.size = pt := ⟨_, rfl⟩
                rw [hpt] at hb1 hnp ⊢
                generalize d0.alloc (.cells #[.int .u64 0, .int .u64 0, .int .u64 0, .int .i64 0, .int .i64 0, .slice none 0 0] 92) = d1 at *
                clear hpt
                refine wpAnyH_ready (rs := [8]) (by kernel_rfl) (by simp) ?_
                refine AllReadyH.cons (o := ?_) ?_ ?_ AllReadyH.nil
                rotate_left 1
                (focus (simp only [zGA, zGZ, zGS] <;> rfl))
                intro K hK
                go_simp
                go_at_call 31
                refine (HGET.out _ qd1).mono ?_
                rintro e d2 ⟨A4, c4, rfl, hf4⟩
                have q2 := qd1.trans hf4.quiet
                have hb2 := hf4.quiet.get hb1 (fun x => x)
                have hown := hf4.own
                have hfn : ∀ k, (Value.slice A4 v.data.length c4).ownBlock = some k → wb.heap.size ≤ k := fun k e => Nat.le_trans (qd1).size (hf4.new k e)
                clear hf4
                unfold tupV
                dsimp only
                refine hK.out _ _ ?_ (fun hHeld => ?_)
                · exact HS5.out _ q2
                clear hK K
                (try simp only [Act.put, zPA, zPZ, zPS])
                have z0 := cell_of hb2 0
                have z1 := cell_of hb2 1
                have z2 := cell_of hb2 2
                have z3 := cell_of hb2 3
                have z4 := cell_of hb2 4
                have z5 := cell_of hb2 5
                have zf := fun o => frozen_of hb2 o
                simp only [zGA, zGS, zGZ] at z0 z1 z2 z3 z4 z5
                (refine zTK 9 (oi := ?_) (v := ?_) ?_ ?_ (Or.inl ⟨?_, ?_⟩) ?_; rotate_left 2; (focus (simp only [zGA, zGZ, zGS] <;> rfl)); (focus (exact fun _ _ _ h => h)); (focus rfl); (focus (intro w hSw; (try dsimp only at hSw); go_simp; (try with_reducible rfl); done)); (try simp only [Act.put, zPA, zPZ, zPS]))
                (refine zTK 10 (oi := ?_) (v := ?_) ?_ ?_ (Or.inl ⟨?_, ?_⟩) ?_; rotate_left 2; (focus (simp only [zGA, zGZ, zGS] <;> rfl)); (focus (exact fun _ _ _ h => h)); (focus rfl); (focus (intro w hSw; (try dsimp only at hSw); go_simp; (try with_reducible rfl); done)); (try simp only [Act.put, zPA, zPZ, zPS]))
                (refine zTK 11 (oi := ?_) (v := ?_) ?_ ?_ (Or.inl ⟨?_, ?_⟩) ?_; rotate_left 2; (focus (simp only [zGA, zGZ, zGS] <;> rfl)); (focus (exact fun _ _ _ h => h)); (focus rfl); (focus (intro w hSw; (try dsimp only at hSw); go_simp; (try with_reducible rfl); done)); (try simp only [Act.put, zPA, zPZ, zPS]))
                refine wpAnyH_ready (rs := [13]) (by kernel_rfl) (by simp) ?_
                refine AllReadyH.cons (o := ?_) ?_ ?_ AllReadyH.nil
                rotate_left 1
                (focus (simp only [zGA, zGZ, zGS] <;> rfl))
                intro K hK
                go_simp
                refine hK.out _ _ ?_ (fun hHeld => ?_)
                · exact HS5.out _ (got_leaf q2 hb2 hnp hown hfn).quiet
                clear hK K
                (try simp only [Act.put, zPA, zPZ, zPS])
                have HG := got_leaf q2 hb2 hnp hown hfn
                unfold sixSet at HG
                (refine zTK 14 (oi := ?_) (v := ?_) ?_ ?_ (Or.inl ⟨?_, ?_⟩) ?_; rotate_left 2; (focus (simp only [zGA, zGZ, zGS] <;> rfl)); (focus (exact fun _ _ _ h => h)); (focus rfl); (focus (intro w hSw; (try dsimp only at hSw); go_simp; (try with_reducible rfl); done)); (try simp only [Act.put, zPA, zPZ, zPS]))
                refine wpAnyH_done (by kernel_rfl) ?_ _
                generalize ((((((d2.setCell ⟨pt, 0, none⟩ (.int .u64 v.row)).setCell ⟨pt, 1, none⟩ (.int .u64 v.xmin)).setCell ⟨pt, 2, none⟩ (.int .u64 v.xmax)).setCell ⟨pt, 3, none⟩ (.int .i64 v.pg)).setCell ⟨pt, 4, none⟩ (.int .i64 v.sl)).setCell ⟨pt, 5, none⟩ (.slice A4 v.data.length c4)) = WF at HG ⊢
                exact KEY _ _ _ _ HG
          case key =>
            intro A4 c4 pt W4 HL0
            have HG4 := Lib.hid HL0
            clear HL0 HS5 HGET
            have HQW : Hid (Quiet wr W4) := HQB.out.trans HG4.out.quiet
            have HS6 : Hid (∀ W', Quiet W4 W' → (fun w' => w'.cell? ⟨sb, 0, none⟩ = some (ptrV lb) ∧ w'.cell? ⟨pt, 0, none⟩ = some (.int .u64 v.row) ∧ w'.cell? ⟨pt, 1, none⟩ = some (.int .u64 v.xmin) ∧ w'.cell? ⟨pt, 2, none⟩ = some (.int .u64 v.xmax) ∧ w'.cell? ⟨pt, 3, none⟩ = some (.int .i64 v.pg) ∧ w'.cell? ⟨pt, 4, none⟩ = some (.int .i64 v.sl) ∧ w'.cell? ⟨pt, 5, none⟩ = some (.slice A4 v.data.length c4)) W') := fun W' hq => by
              have bt := hq.get HG4.out.box (fun x => x)
              refine ⟨((HSR.out.quietly HQW.out).quietly hq).cells.1, ?_, ?_, ?_, ?_, ?_, ?_⟩ <;> (rw [cell_of bt]; rfl)
            obtain ⟨r, hrv⟩ : ∃ r, deadS s.L v.xmin v.xmax hz0 = r := ⟨_, rfl⟩
            have HDEAD : Hid (∀ W', Quiet W4 W' → Calls Tryz.prog 32 #[ptrV lb, tupV v A4 c4, .int .u64 (hz0 : Int)] W' (BoolQ W' r)) := fun W' hq => by
              rw [← hrv]
              exact snap_dead v A4 c4 hz0 ((HSR.out.quietly HQW.out).quietly hq).log HV1.out.1 HV1.out.2
            rw [hrv] at HBS
            unfold tupV at HDEAD
            clear hrv
            go_wp2_with fail
            refine wp_region_held_drew (S := (fun w' => w'.cell? ⟨sb, 0, none⟩ = some (ptrV lb) ∧ w'.cell? ⟨pt, 0, none⟩ = some (.int .u64 v.row) ∧ w'.cell? ⟨pt, 1, none⟩ = some (.int .u64 v.xmin) ∧ w'.cell? ⟨pt, 2, none⟩ = some (.int .u64 v.xmax) ∧ w'.cell? ⟨pt, 3, none⟩ = some (.int .i64 v.pg) ∧ w'.cell? ⟨pt, 4, none⟩ = some (.int .i64 v.sl) ∧ w'.cell? ⟨pt, 5, none⟩ = some (.slice A4 v.data.length c4))) (by kernel_rfl) (HS6.out _ (Only.refl _ _).drew) (fun hHeld => ?_)
            simp only [List.size_toArray, List.length_cons, List.length_nil, Nat.reduceAdd]
            have q6 : Quiet W4 W4.drew := (Only.refl _ _).drew
            generalize W4.drew = d6 at q6 hHeld ⊢
            (refine zTK 0 (oi := ?_) (v := ?_) ?_ ?_ (Or.inl ⟨?_, ?_⟩) ?_; rotate_left 2; (focus (simp only [zGA, zGZ, zGS] <;> rfl)); (focus (exact fun _ _ _ h => h)); (focus rfl); (focus (intro w hSw; (try dsimp only at hSw); go_simp; (try with_reducible rfl); done)); (try simp only [Act.put, zPA, zPZ, zPS]))
            (refine zTK 1 (oi := ?_) (v := ?_) ?_ ?_ (Or.inl ⟨?_, ?_⟩) ?_; rotate_left 2; (focus (simp only [zGA, zGZ, zGS] <;> rfl)); (focus (exact fun _ _ _ h => h)); (focus rfl); (focus (intro w hSw; (try dsimp only at hSw); go_simp; (try with_reducible rfl); done)); (try simp only [Act.put, zPA, zPZ, zPS]))
            (refine zTK 2 (oi := ?_) (v := ?_) ?_ ?_ (Or.inl ⟨?_, ?_⟩) ?_; rotate_left 2; (focus (simp only [zGA, zGZ, zGS] <;> rfl)); (focus (exact fun _ _ _ h => h)); (focus rfl); (focus (intro w hSw; (try dsimp only at hSw); go_simp; (try with_reducible rfl); done)); (try simp only [Act.put, zPA, zPZ, zPS]))
            (refine zTK 3 (oi := ?_) (v := ?_) ?_ ?_ (Or.inl ⟨?_, ?_⟩) ?_; rotate_left 2; (focus (simp only [zGA, zGZ, zGS] <;> rfl)); (focus (exact fun _ _ _ h => h)); (focus rfl); (focus (intro w hSw; (try dsimp only at hSw); go_simp; (try with_reducible rfl); done)); (try simp only [Act.put, zPA, zPZ, zPS]))
            (refine zTK 4 (oi := ?_) (v := ?_) ?_ ?_ (Or.inl ⟨?_, ?_⟩) ?_; rotate_left 2; (focus (simp only [zGA, zGZ, zGS] <;> rfl)); (focus (exact fun _ _ _ h => h)); (focus rfl); (focus (intro w hSw; (try dsimp only at hSw); go_simp; (try with_reducible rfl); done)); (try simp only [Act.put, zPA, zPZ, zPS]))
            (refine zTK 5 (oi := ?_) (v := ?_) ?_ ?_ (Or.inl ⟨?_, ?_⟩) ?_; rotate_left 2; (focus (simp only [zGA, zGZ, zGS] <;> rfl)); (focus (exact fun _ _ _ h => h)); (focus rfl); (focus (intro w hSw; (try dsimp only at hSw); go_simp; (try with_reducible rfl); done)); (try simp only [Act.put, zPA, zPZ, zPS]))
            refine wpAnyH_ready (rs := [6]) (by kernel_rfl) (by simp) ?_
            refine AllReadyH.cons (o := ?_) ?_ ?_ AllReadyH.nil
            rotate_left 1
            (focus (simp only [zGA, zGZ, zGS] <;> rfl))
            intro K hK
            go_simp
            go_at_call 32
            refine (HDEAD.out _ q6).mono ?_
            rintro e d7 ⟨rfl, hq7⟩
            have q7 := q6.trans hq7
            clear hq7
            dsimp only
            refine hK.out _ _ ?_ (fun hHeld => ?_)
            · exact HS6.out _ q7
            clear hK K
            (try simp only [Act.put, zPA, zPZ, zPS])
            refine wpAnyH_done (by kernel_rfl) ?_ _
            clear hHeld
            have HQ7 : Hid (Quiet wr d7) := HQW.out.trans q7
            rcases r with _ | _
            · have HT7 : Hid (TreeIs d7 (fun j => D0 j ∨ (W3.heap.size ≤ j ∧ j < wr.heap.size)) nb es) := by
                have h1 := HTR.out.mono (D' := fun j => D0 j ∨ (W3.heap.size ≤ j ∧ j < wr.heap.size)) (fun k a b => by rcases a with a | a; exact Or.inl a; exact Or.inr ⟨a, b⟩)
                exact h1.kept HQ7.out (fun _ _ x => x)
              have HP7 : Hid (d7.heap[pt]? = some (.cells (tupCells v A4 c4) 92 (0, 0)) ∧ d7.heap[at_]? = some (.cells #[.int .i64 pg, .int .i64 sl] 41 (0, 0)) ∧ wr.heap.size ≤ pt ∧ wr.heap.size ≤ at_) := ⟨q7.get HG4.out.box (fun x => x), q7.get (HG4.out.quiet.get HAT.out (fun x => x)) (fun x => x), Nat.le_trans HQB.out.size HG4.out.new, by rw [HAT_.out]; exact Nat.le_refl _⟩
              have HZR : Hid (W3.heap.size ≤ wr.heap.size) := HO.out.size
              have HS7 : Hid (∀ W', Only (fun j => D0 j ∨ (W3.heap.size ≤ j ∧ j < wr.heap.size)) d7 W' → (fun w' => w'.cell? ⟨tq, 0, none⟩ = some (.int .u64 (t.id : Int)) ∧ w'.cell? ⟨tq, 1, none⟩ = some (.string t.name) ∧ w'.cell? ⟨tq, 2, none⟩ = some (.slice A2 t.cols.length c2) ∧ w'.cell? ⟨tq, 3, none⟩ = some (.int .u64 (t.xmin : Int)) ∧ w'.cell? ⟨tq, 4, none⟩ = some (.int .u64 (t.xmax : Int)) ∧ w'.cell? ⟨pt, 0, none⟩ = some (.int .u64 v.row) ∧ w'.cell? ⟨pt, 1, none⟩ = some (.int .u64 v.xmin) ∧ w'.cell? ⟨pt, 2, none⟩ = some (.int .u64 v.xmax) ∧ w'.cell? ⟨pt, 3, none⟩ = some (.int .i64 v.pg) ∧ w'.cell? ⟨pt, 4, none⟩ = some (.int .i64 v.sl) ∧ w'.cell? ⟨pt, 5, none⟩ = some (.slice A4 v.data.length c4) ∧ w'.cell? ⟨xi, 3, none⟩ = some (.int .i64 0) ∧ w'.cell? ⟨at_, 0, none⟩ = some (.int .i64 pg) ∧ w'.cell? ⟨at_, 1, none⟩ = some (.int .i64 sl)) W') := fun W' ho => by
                have hz := HZ.out
                have hzr := HZR.out
                have hp := HP7.out
                have b1 := tabBox_cells (ho.get (HQ7.out.get HTQR.out (fun x => x)) (fun e => by rcases e with e | e; exact (HD0.out _ e).2.2 rfl; omega))
                have b2 := ho.get hp.1 (fun e => by rcases e with e | e; (have := HD0.out _ e; omega); omega)
                have b3 := ho.get (HQ7.out.get HXR.out (fun x => x)) (fun e => by rcases e with e | e; (have := HD0.out _ e; omega); omega)
                have b4 := ho.get hp.2.1 (fun e => by rcases e with e | e; (have := HD0.out _ e; omega); omega)
                exact ⟨b1.1, b1.2.1, b1.2.2.1, b1.2.2.2.1, b1.2.2.2.2, by rw [cell_of b2]; rfl, by rw [cell_of b2]; rfl, by rw [cell_of b2]; rfl, by rw [cell_of b2]; rfl, by rw [cell_of b2]; rfl, by rw [cell_of b2]; rfl, by rw [cell_of b3]; rfl, by rw [cell_of b4]; rfl, by rw [cell_of b4]; rfl⟩
              have hd9 : v.data.length = 9 := by rw [HNV.out.2]; exact rowI_length n
              have HKEY : Hid (∀ W', Quiet d7 W' → Calls Tryz.prog 34 #[.agg #[.int .u64 (t.id : Int), .string t.name, .slice A2 t.cols.length c2, .int .u64 (t.xmin : Int), .int .u64 (t.xmax : Int)], .agg #[.int .u64 v.row, .int .u64 v.xmin, .int .u64 v.xmax, .int .i64 v.pg, .int .i64 v.sl, .slice A4 v.data.length c4], .int .i64 0] W' (FreshPost W' (keyI n))) := fun W' hq => by
                obtain ⟨A', c', e', hc4, hm4, hrd4⟩ := own_form HG4.out.own
                injection e' with e1 _ e2
                subst e1 e2
                have hr4 := (hrd4.kept q7 (fun _ _ x => x)).kept hq (fun _ _ x => x)
                rw [hd9] at hc4 hr4 ⊢
                rw [HNV.out.2] at hr4
                have hcl := ((HCL3.out.kept HO.out (fun k hk e => by have := HD0.out k e; omega)).kept HQ7.out (fun _ _ x => x)).kept hq (fun _ _ x => x)
                have hk := store_key (v := v) HCC.out hcl HNL.out.cols.2.1 HNL.out.cols.2.2 HNV.out.1 HNV.out.2 hr4 hc4 hm4
                unfold tabV tupV at hk
                rw [hd9] at hk
                exact hk
              have HTIN : Hid (∀ W', Quiet d7 W' → ∀ A9 c9 (S9 : Nat → Prop), Rd W' S9 1 A9 (keyI n).length (bytesV (keyI n)) → Calls Tryz.prog 33 #[ptrV nb, .agg #[.slice A9 (keyI n).length c9, .int .i64 pg, .int .i64 sl]] W' (fun e w' => (∃ z : Int, e = .returned (.int .i64 z)) ∧ Only (fun j => D0 j ∨ (W3.heap.size ≤ j ∧ j < wr.heap.size)) W' w' ∧ TreeIs w' (fun k => (D0 k ∨ (W3.heap.size ≤ k ∧ k < wr.heap.size)) ∨ W'.heap.size ≤ k) nb (putE ⟨keyI n, pg, sl⟩ es))) := fun W' hq A9 c9 S9 hr => by
                refine (tree_insert W' (fun j => D0 j ∨ (W3.heap.size ≤ j ∧ j < wr.heap.size)) nb es ⟨keyI n, pg, sl⟩ A9 c9 S9 (HT7.out.kept hq (fun _ _ x => x)) hr (keyI_bytes HNV.out.1) (by show (keyI n).length ≤ 600; rw [keyI_length]; omega) HEL.out).mono ?_
                intro e w' hp
                unfold putE
                rcases hp with ⟨h1, h2, h3, h4⟩ | ⟨h1, h2, h3, h4⟩
                · rw [if_pos h1]; exact ⟨⟨_, h2⟩, h3, h4⟩
                · rw [if_neg h1]; exact ⟨⟨_, h2⟩, h3, h4⟩
              have HQ67 : Hid (Quiet W4 d7) := q7
              clear q6 q7 HS6 HDEAD hd9
              go_wp2_with fail
              refine wp_region_held_drew (S := (fun w' => w'.cell? ⟨tq, 0, none⟩ = some (.int .u64 (t.id : Int)) ∧ w'.cell? ⟨tq, 1, none⟩ = some (.string t.name) ∧ w'.cell? ⟨tq, 2, none⟩ = some (.slice A2 t.cols.length c2) ∧ w'.cell? ⟨tq, 3, none⟩ = some (.int .u64 (t.xmin : Int)) ∧ w'.cell? ⟨tq, 4, none⟩ = some (.int .u64 (t.xmax : Int)) ∧ w'.cell? ⟨pt, 0, none⟩ = some (.int .u64 v.row) ∧ w'.cell? ⟨pt, 1, none⟩ = some (.int .u64 v.xmin) ∧ w'.cell? ⟨pt, 2, none⟩ = some (.int .u64 v.xmax) ∧ w'.cell? ⟨pt, 3, none⟩ = some (.int .i64 v.pg) ∧ w'.cell? ⟨pt, 4, none⟩ = some (.int .i64 v.sl) ∧ w'.cell? ⟨pt, 5, none⟩ = some (.slice A4 v.data.length c4) ∧ w'.cell? ⟨xi, 3, none⟩ = some (.int .i64 0) ∧ w'.cell? ⟨at_, 0, none⟩ = some (.int .i64 pg) ∧ w'.cell? ⟨at_, 1, none⟩ = some (.int .i64 sl))) (by kernel_rfl) (HS7.out _ ((Only.refl _ _).drew)) (fun hHeld => ?_)
              simp only [List.size_toArray, List.length_cons, List.length_nil, Nat.reduceAdd]
              have q8 : Quiet d7 d7.drew := (Only.refl _ _).drew
              generalize d7.drew = d8 at q8 hHeld ⊢
              (refine zTK 0 (oi := ?_) (v := ?_) ?_ ?_ (Or.inl ⟨?_, ?_⟩) ?_; rotate_left 2; (focus (simp only [zGA, zGZ, zGS] <;> rfl)); (focus (exact fun _ _ _ h => h)); (focus rfl); (focus (intro w hSw; (try dsimp only at hSw); go_simp; (try with_reducible rfl); done)); (try simp only [Act.put, zPA, zPZ, zPS]))
              (refine zTK 1 (oi := ?_) (v := ?_) ?_ ?_ (Or.inl ⟨?_, ?_⟩) ?_; rotate_left 2; (focus (simp only [zGA, zGZ, zGS] <;> rfl)); (focus (exact fun _ _ _ h => h)); (focus rfl); (focus (intro w hSw; (try dsimp only at hSw); go_simp; (try with_reducible rfl); done)); (try simp only [Act.put, zPA, zPZ, zPS]))
              (refine zTK 2 (oi := ?_) (v := ?_) ?_ ?_ (Or.inl ⟨?_, ?_⟩) ?_; rotate_left 2; (focus (simp only [zGA, zGZ, zGS] <;> rfl)); (focus (exact fun _ _ _ h => h)); (focus rfl); (focus (intro w hSw; (try dsimp only at hSw); go_simp; (try with_reducible rfl); done)); (try simp only [Act.put, zPA, zPZ, zPS]))
              (refine zTK 3 (oi := ?_) (v := ?_) ?_ ?_ (Or.inl ⟨?_, ?_⟩) ?_; rotate_left 2; (focus (simp only [zGA, zGZ, zGS] <;> rfl)); (focus (exact fun _ _ _ h => h)); (focus rfl); (focus (intro w hSw; (try dsimp only at hSw); go_simp; (try with_reducible rfl); done)); (try simp only [Act.put, zPA, zPZ, zPS]))
              (refine zTK 4 (oi := ?_) (v := ?_) ?_ ?_ (Or.inl ⟨?_, ?_⟩) ?_; rotate_left 2; (focus (simp only [zGA, zGZ, zGS] <;> rfl)); (focus (exact fun _ _ _ h => h)); (focus rfl); (focus (intro w hSw; (try dsimp only at hSw); go_simp; (try with_reducible rfl); done)); (try simp only [Act.put, zPA, zPZ, zPS]))
              (refine zTK 6 (oi := ?_) (v := ?_) ?_ ?_ (Or.inl ⟨?_, ?_⟩) ?_; rotate_left 2; (focus (simp only [zGA, zGZ, zGS] <;> rfl)); (focus (exact fun _ _ _ h => h)); (focus rfl); (focus (intro w hSw; (try dsimp only at hSw); go_simp; (try with_reducible rfl); done)); (try simp only [Act.put, zPA, zPZ, zPS]))
              refine wpAnyH_ready (rs := [5]) (by kernel_rfl) (by simp) ?_
              refine AllReadyH.cons (o := ?_) ?_ ?_ AllReadyH.nil
              rotate_left 1
              (focus (simp only [zGA, zGZ, zGS] <;> rfl))
              intro K hK
              go_simp
              go_at_call 34
              refine (HKEY.out _ q8).mono ?_
              rintro e d9 ⟨v9, rfl, hf9⟩
              obtain ⟨A9, c9, rfl, hc9, hm9, hrd9⟩ := own_form hf9.own
              have q9 := q8.trans hf9.quiet
              dsimp only
              refine hK.out _ _ ?_ (fun hHeld => ?_)
              · exact HS7.out _ (q9.mono (fun _ _ x => x.elim))
              clear hK K
              (try simp only [Act.put, zPA, zPZ, zPS])
              (refine zTK 7 (oi := ?_) (v := ?_) ?_ ?_ (Or.inl ⟨?_, ?_⟩) ?_; rotate_left 2; (focus (simp only [zGA, zGZ, zGS] <;> rfl)); (focus (exact fun _ _ _ h => h)); (focus rfl); (focus (intro w hSw; (try dsimp only at hSw); go_simp; (try with_reducible rfl); done)); (try simp only [Act.put, zPA, zPZ, zPS]))
              refine wpAnyH_ready (rs := [8]) (by kernel_rfl) (by simp) ?_
              refine AllReadyH.cons (o := ?_) ?_ ?_ AllReadyH.nil
              rotate_left 1
              (focus (simp only [zGA, zGZ, zGS] <;> rfl))
              intro K hK
              go_simp
              go_at_call 33
              refine (HTIN.out _ q9 A9 c9 _ (by exact hrd9)).mono ?_
              rintro e d10 ⟨⟨ze, rfl⟩, ho10, ht10⟩
              dsimp only
              refine hK.out _ _ ?_ (fun hHeld => ?_)
              · exact HS7.out _ ((q9.mono (fun _ _ x => x.elim)).trans ho10)
              clear hK K
              (try simp only [Act.put, zPA, zPZ, zPS])
              refine wpAnyH_done (by kernel_rfl) ?_ _
              have hz9 := q9.size
              have hz7 := HQ7.out.size
              have HEND : Hid (Only D0 W3 d10 ∧ TreeIs d10 (fun j => D0 j ∨ W3.heap.size ≤ j) nb (buildE H s.L hz0 (pl.take (k + 1)))) := by
                have hzr := HZR.out
                refine ⟨((HO.out.trans' HQ7.out (fun _ _ x => x.elim)).trans' q9 (fun _ _ x => x.elim)).trans' ho10 (fun j hj e => by rcases e with e | e; exact e; omega), ?_⟩
                rw [HBS.out]
                exact ht10.mono (fun j a _ => by rcases a with (a | a) | a; exact Or.inl a; exact Or.inr a.1; exact Or.inr (by omega))
              clear hHeld q8 q9 ho10 ht10 hf9 hc9 hm9 hrd9 HS7 HKEY HTIN hz9 hz7
              go_wp2
              go_roundw
              case rel => exact ⟨k + 1, by omega, by go_num, HEND.out.1, HEND.out.2⟩
              case measure => simp [intOf]; omega
            · have HEND : Hid (Only D0 W3 d7 ∧ TreeIs d7 (fun j => D0 j ∨ W3.heap.size ≤ j) nb (buildE H s.L hz0 (pl.take (k + 1)))) := by
                refine ⟨HO.out.trans' HQ7.out (fun _ _ x => x.elim), ?_⟩
                rw [HBS.out]
                exact HTR.out.kept HQ7.out (fun _ _ x => x)
              clear q6 q7 HS6 HDEAD
              go_wp2
              go_roundw
              case rel => exact ⟨k + 1, by omega, by go_num, HEND.out.1, HEND.out.2⟩
              case measure => simp [intOf]; omega
        · obtain rfl : k = m := by omega
          have HMT : Hid (MapF wr mt ft) := HSR.out.mT
          have c4 := HSR.out.cells.2.2.2.2.1
          have x0 : wr.cell? ⟨xi, 0, none⟩ = some (.int .u64 (nid : Int)) := by
            rw [cell_of (HO.out.get HB3.out.2 (fun x => by have := HD0.out _ x; have := HZ.out; omega))]
            rfl
          have HX : Hid (U64 nid) := by have := HNID.out; have := HLU.out.1; unfold Hid U64; omega
          clear hlt hk
          go_wp2_with fail
          refine wp_region_last (S := (fun w' => w'.cell? ⟨sb, 4, none⟩ = some (.map (some mt)) ∧ w'.cell? ⟨xi, 0, none⟩ = some (.int .u64 (nid : Int)) ∧ Quiet wr w')) (by kernel_rfl) (by kernel_rfl) (by simp) (⟨c4, x0, (Only.refl _ _).drew⟩) (fun hHeld => ?_)
          simp only [List.pop_toArray, List.dropLast, List.size_toArray, List.length_cons, List.length_nil, Nat.reduceAdd, Nat.reduceSub]
          (refine zTK 0 (oi := ?_) (v := ?_) ?_ ?_ (Or.inl ⟨?_, ?_⟩) ?_; rotate_left 2; (focus (simp only [zGA, zGZ, zGS] <;> rfl)); (focus (exact fun _ _ _ => last_panic (fun h => h))); (focus rfl); (focus (intro w hSw; (try dsimp only at hSw); go_simp; (try with_reducible rfl); done)); (try simp only [Act.put, zPA, zPZ, zPS]))
          (refine zTK 1 (oi := ?_) (v := ?_) ?_ ?_ (Or.inl ⟨?_, ?_⟩) ?_; rotate_left 2; (focus (simp only [zGA, zGZ, zGS] <;> rfl)); (focus (exact fun _ _ _ => last_panic (fun h => h))); (focus rfl); (focus (intro w hSw; (try dsimp only at hSw); go_simp; (try with_reducible rfl); done)); (try simp only [Act.put, zPA, zPZ, zPS]))
          (refine zTK 2 (oi := ?_) (v := ?_) ?_ ?_ (Or.inl ⟨?_, ?_⟩) ?_; rotate_left 2; (focus (simp only [zGA, zGZ, zGS] <;> rfl)); (focus (exact fun _ _ _ => last_panic (fun h => h))); (focus rfl); (focus (intro w hSw; (try dsimp only at hSw); go_simp; (try with_reducible rfl); done)); (try simp only [Act.put, zPA, zPZ, zPS]))
          (refine zTK 3 (oi := ?_) (v := ?_) ?_ ?_ (Or.inl ⟨?_, ?_⟩) ?_; rotate_left 2; (focus (simp only [zGA, zGZ, zGS] <;> rfl)); (focus (exact fun _ _ _ => last_panic (fun h => h))); (focus rfl); (focus (intro w hSw; (try dsimp only at hSw); go_simp; (try with_reducible rfl); done)); (try simp only [Act.put, zPA, zPZ, zPS]))
          (refine zTK 4 (oi := ?_) (v := ?_) ?_ ?_ (Or.inl ⟨?_, ?_⟩) ?_; rotate_left 2; (focus (simp only [zGA, zGZ, zGS] <;> rfl)); (focus (exact fun _ _ _ => last_panic (fun h => h))); (focus rfl); (focus (intro w hSw; (try dsimp only at hSw); go_simp; (try with_reducible rfl); done)); (try simp only [Act.put, zPA, zPZ, zPS]))
          (refine zTK 5 (oi := ?_) (v := ?_) ?_ ?_ (Or.inl ⟨?_, ?_⟩) ?_; rotate_left 2; (focus (simp only [zGA, zGZ, zGS] <;> rfl)); (focus (exact fun _ _ _ => last_panic (fun h => h))); (focus rfl); (focus (intro w hSw; (try dsimp only at hSw); go_simp; (try with_reducible rfl); done)); (try simp only [Act.put, zPA, zPZ, zPS]))
          (refine zTK 6 (oi := ?_) (v := ?_) ?_ ?_ (Or.inl ⟨?_, ?_⟩) ?_; rotate_left 2; (focus (simp only [zGA, zGZ, zGS] <;> rfl)); (focus (exact fun _ _ _ => last_panic (fun h => h))); (focus rfl); (focus (intro w hSw; (try dsimp only at hSw); go_simp; (try with_reducible rfl); done)); (try simp only [Act.put, zPA, zPZ, zPS]))
          refine wpAnyH_done (by kernel_rfl) ?_ _
          refine last_step (o := ?_) ?_ ?_
          rotate_left 1
          (focus (simp only [zGA, zGZ, zGS] <;> rfl))
          intro K hK
          refine wp_put (.tmp 97) (.tmp 99) (.tmp 100) rfl (HMT.out.kept hHeld.2.2 (fun x => x)) Tryz.underlying64 Tryz.underlying28 rfl rfl rfl HX.out ?_
          intro w6 hm6 ho6
          refine hK.out _ _ ?_
          clear hK K
          have hm7 : MapF w6 mt (upd ft nid (some (ptrV nb))) := hm6
          have HEND : Hid (POST (.returned (.int .i64 0)) w6) := by
            rw [← HPOST.out]
            have hn := HNID.out
            subst hn
            have hb := HTR.out
            rw [List.take_of_length_le (by have := HM.out; omega), ← HPLE.out] at hb
            have hz := HZ.out
            refine ⟨hz0, rfl, idx_done HH.out HQ2.out HL.out ((HOW.out.mono (fun k _ x => (HD0.out k x).1)).trans' hHeld.2.2 (fun _ _ x => x.elim)) ((hb.kept hHeld.2.2 (fun _ _ x => x)).mono (fun j a _ => by rcases a with a | a; exact (HD0.out j a).1; omega)) ho6 hm7⟩
          clear hm6 hm7 ho6 hHeld HMT
          dsimp only [Act.put]
          go_wp2
          exact HEND.out

end Go.Proofs.YtmkaomglecfmfaaGreatDoor

namespace Go.Proofs.YtmkaomglecfmfaaGreatDoor
open Go.RowKit Go.Lap

theorem small_i : Small ⟨#[105]⟩ := ⟨by decide, by decide, fun i h => by
  obtain rfl : i = 0 := by have : i < 1 := h; omega
  decide +revert⟩

theorem name_ti : ((⟨#[116]⟩ : ByteArray).toList == (⟨#[105]⟩ : ByteArray).toList) = false := by
  rw [Lib.toList_data, Lib.toList_data]
  decide

section
variable {w0 w : World} {sb : Nat} {K : Nat → Prop} {H : List (List (Option Tup))} {left last i c : Nat} {oi : Option (List Ent)}

theorem EntSt.places (h : EntSt i H left last c oi) (hi : i ≤ 40) : ∀ k, k ≤ H.length → (placesH H k).length ≤ 10000 := fun k hk => by
  have h2 := h.few
  rw [placesH_length H k hk]
  have h1 : usedH (H.take k) ≤ usedH H := by
    conv => rhs; rw [← List.take_append_drop k H]
    unfold usedH
    rw [List.map_append, List.sum_append]
    omega
  have := h.heap.used
  omega

theorem ent_index (h : LawSt w0 w sb K (stE H left last none)) (hs : EntSt i H left last c none) (hi : i ≤ 40) :
    Calls Tryz.prog 9 #[ptrV sb, .int .u64 1, .string ⟨#[105]⟩, .string ⟨#[116]⟩, .string ⟨#[97]⟩] w fun e w' => e = .returned (.int .i64 0) ∧ ∃ es, LawTo w0 w sb K (stE H left last (some es)) w' ∧ EntSt i H left last c (some es) := by
  obtain ⟨o, h1, h2, h3, h4⟩ := h
  refine (store_index (x := 1) (y := takeS [1] 1) (t := tabA) (nm := ⟨#[97]⟩) (N := 1) h1 (by unfold U64; omega) rfl rfl rfl rfl ent_found rfl (by unfold U64; decide) (by show 1 < 1000000; omega) (by unfold U64; decide) small_i name_ti (by show 1 < 1000000000; omega) (fun x y e => ?_) (by omega) (hs.places hi) hs.heap.int).mono ?_
  · rcases Nat.lt_or_ge 1 x with a | a
    · have e' : upd (fun _ => none) 1 (some (takeS [1] 1)) x = some y := e
      rw [show upd (fun _ => none) 1 (some (takeS [1] 1)) x = (none : Option Snap) by simp [upd]; omega] at e'
      cases e'
    · exact a
  · rintro e w' ⟨hz, rfl, hst⟩
    refine ⟨rfl, buildE H [1] hz (placesH H H.length), law_step h1 h2 h3 h4 hst, ⟨hs.heap, hs.few, hs.last, fun es e => ?_⟩⟩
    injection e with e
    rw [← e]
    exact build_all hs.heap

theorem ent_used (h : LawSt w0 w sb K (stE H left last oi)) (hs : EntSt i H left last c oi) :
    Calls Tryz.prog 15 #[ptrV sb] w (IntsPost w [c]) := by
  obtain ⟨o, h1, h2, h3, h4⟩ := h
  have := store_used (t := tabA) (H := H) h1 rfl (by show (ixE oi).length ≤ 1000; cases oi <;> simp [ixE]) (by unfold U64; decide) rfl
  rw [hs.heap.used] at this
  exact this

theorem ent_entries (h : LawSt w0 w sb K (stE H left last oi)) (hs : EntSt i H left last c oi) :
    Calls Tryz.prog 16 #[ptrV sb] w (IntsPost w (match oi with | none => [] | some _ => [c])) := by
  obtain ⟨o, h1, h2, h3, h4⟩ := h
  have := store_entries (t := tabA) h1 rfl (by show (ixE oi).length ≤ 1000; cases oi <;> simp [ixE]) (by unfold U64; decide) (fun e he => ?_)
  · cases oi with
    | none => exact this
    | some es =>
      have e1 : (keptI (stE H left last (some es)).L tabA.id (stE H left last (some es)).I).map (fun e => (((stE H left last (some es)).ts e.id).getD []).length) = [es.length] := rfl
      rw [e1, (hs.ent es rfl).len, hs.heap.used] at this
      exact this
  · cases oi with
    | none => cases he
    | some es =>
      have e1 : keptI (stE H left last (some es)).L tabA.id (stE H left last (some es)).I = [idxA] := rfl
      rw [e1, List.mem_singleton] at he
      subst he
      exact ⟨(by unfold U64; decide), es, rfl⟩
end

end Go.Proofs.YtmkaomglecfmfaaGreatDoor

namespace Go.Proofs.YtmkaomglecfmfaaGreatDoor
open Go.RowKit Go.Lap

section
variable {k i : Nat} {free : Bool} {s : St} {L : List Nat} {T : List (Option Tup)} {xm : Nat} {p q : Int} {sn : Nat → Option Snap}

end

end Go.Proofs.YtmkaomglecfmfaaGreatDoor

namespace Go.Proofs.YtmkaomglecfmfaaGreatDoor
open Go.RowKit Go.Lap

set_option maxRecDepth 100000 in
theorem law_num (n : Int) (w : World) : Calls Tryz.prog 12 #[.int .i64 n] w (LitRow w 4 (intRow n)) := by
  have hN : LitRow w 4 (intRow n) (.returned (.slice (some ⟨w.heap.size, 0, none⟩) 1 1)) (w.alloc (.cells #[.int .u8 1, .int .i64 n, .string ⟨#[]⟩, .bool false] 54)) := ⟨w.heap.size, rfl, (Only.refl _ _).alloc _, Nat.le_refl _, by simp, Rd.new w 4 1 (intRow n) _ _ rfl rfl⟩
  have HN := Lib.hid hN
  clear hN
  obtain ⟨POST, hPOST⟩ : ∃ POST, LitRow w 4 (intRow n) = POST := ⟨_, rfl⟩
  rw [hPOST] at HN ⊢
  clear hPOST
  go_enter Tryz.func12, Tryz.ntmps12
  go_wp2
  exact HN.out

set_option maxRecDepth 100000 in
theorem law_one (w : World) : Calls Tryz.prog 8 #[] w (LitRow w 2 (colsV [(⟨#[97]⟩, 1)])) := by
  have hN : LitRow w 2 (colsV [(⟨#[97]⟩, 1)]) (.returned (.slice (some ⟨w.heap.size, 0, none⟩) 1 1)) (w.alloc (.cells #[.string ⟨#[97]⟩, .int .u8 1] 78)) := ⟨w.heap.size, rfl, (Only.refl _ _).alloc _, Nat.le_refl _, by simp, Rd.new w 2 1 (colsV [(⟨#[97]⟩, 1)]) _ _ rfl rfl⟩
  have HN := Lib.hid hN
  clear hN
  obtain ⟨POST, hPOST⟩ : ∃ POST, LitRow w 2 (colsV [(⟨#[97]⟩, 1)]) = POST := ⟨_, rfl⟩
  rw [hPOST] at HN ⊢
  clear hPOST
  go_enter Tryz.func8, Tryz.ntmps8
  go_wp2
  exact HN.out

end Go.Proofs.YtmkaomglecfmfaaGreatDoor

namespace Go.Proofs.YtmkaomglecfmfaaGreatDoor
open Go.RowKit Go.Lap

/-- One row that is told: where it lies. -/
structure OneRow (w wr : World) (v : Value) (id : Nat) (pg sl : Int) (n b c b2 c2 : Nat) : Prop where
  form : v = .slice (some ⟨b, 0, none⟩) 1 c
  quiet : Quiet w wr
  nb : w.heap.size ≤ b ∧ b < wr.heap.size
  nb2 : w.heap.size ≤ b2 ∧ b2 < wr.heap.size
  c0 : wr.cell? ⟨b, 0, none⟩ = some (.int .u64 (id : Int))
  c1 : wr.cell? ⟨b, 1, none⟩ = some (.int .i64 pg)
  c2' : wr.cell? ⟨b, 2, none⟩ = some (.int .i64 sl)
  c3 : wr.cell? ⟨b, 3, none⟩ = some (.slice (some ⟨b2, 0, none⟩) 1 c2)
  cv : wr.cell? ⟨b2, 1, none⟩ = some (.int .i64 (n : Int))

theorem RowsW.one {w wr : World} {v : Value} {M : List RowM} {id : Nat} {pg sl : Int} {n : Nat} (h : RowsW w wr v M) (hp : (M.map RowM.told).Perm [(id, pg, sl, n)]) : ∃ b c b2 c2, OneRow w wr v id pg sl n b c b2 c2 := by
  have hm := List.perm_singleton.1 hp
  rcases M with _ | ⟨m, _ | ⟨m2, M⟩⟩
  · cases hm
  rotate_left 1
  · cases hm
  injection hm with hm _
  obtain ⟨i, p, s, k, A, c'⟩ := m
  injection hm with e1 hm
  injection hm with e2 hm
  injection hm with e3 e4
  subst e1 e2 e3 e4
  have hown := h.own
  rcases owns_cases hown with ⟨_, e⟩ | ⟨b, c, rfl, _, _⟩
  · cases e
  obtain ⟨hn, hv⟩ := h.vals _ (List.mem_singleton_self _)
  rcases owns_cases hv with ⟨_, e⟩ | ⟨b2, c2, e, _, _⟩
  · cases e
  injection e with eA _ ec
  dsimp only at eA ec
  subst eA
  first | subst ec | skip
  obtain ⟨cb, hcb⟩ := own_blk hown (k := b) rfl
  obtain ⟨cb2, hcb2⟩ := own_blk hv (k := b2) rfl
  have k0 := hown.cells (by rfl) 0 (.int .u64 (i : Int)) rfl
  have k1 := hown.cells (by rfl) 1 (.int .i64 p) rfl
  have k2 := hown.cells (by rfl) 2 (.int .i64 s) rfl
  have k3 := hown.cells (by rfl) 3 (.slice (some ⟨b2, 0, none⟩) 1 c') rfl
  have kv := hv.cells (by rfl) 1 (.int .i64 (k : Int)) rfl
  exact ⟨b, c, b2, c', rfl, h.quiet, ⟨h.new b rfl, lt_of_get hcb⟩, ⟨hn b2 rfl, lt_of_get hcb2⟩, k0, k1, k2, k3, kv⟩

theorem OneRow.kept {w wr wn : World} {v : Value} {id n b c b2 c2 : Nat} {pg sl : Int} {S : Nat → Prop} (h : OneRow w wr v id pg sl n b c b2 c2) (ho : Only S wr wn) (h1 : ¬ S b) (h2 : ¬ S b2) :
    wn.cell? ⟨b, 0, none⟩ = some (.int .u64 (id : Int)) ∧ wn.cell? ⟨b, 1, none⟩ = some (.int .i64 pg) ∧ wn.cell? ⟨b, 2, none⟩ = some (.int .i64 sl) ∧ wn.cell? ⟨b, 3, none⟩ = some (.slice (some ⟨b2, 0, none⟩) 1 c2) ∧ wn.cell? ⟨b2, 1, none⟩ = some (.int .i64 (n : Int)) :=
  ⟨ho.cell h.c0 h1, ho.cell h.c1 h1, ho.cell h.c2' h1, ho.cell h.c3 h1, ho.cell h.cv h2⟩

/-- The example's heaps. -/
def t7 : Tup := ⟨1, 1, 0, -1, -1, rowI 7⟩
def t8 : Tup := ⟨1, 2, 0, -1, -1, rowI 8⟩
def sn3 : Nat → Option Snap := upd (upd (upd (upd (fun _ => none) 1 (some (takeS [1] 1))) 1 none) 2 (some (takeS [2, 1] 2))) 3 (some (takeS [2, 1, 1] 3))

theorem int_one {T : List (Option Tup)} (h : ∀ s ∈ T, ∃ v, s = some v ∧ U64 v.xmin ∧ U64 v.xmax ∧ ∃ n, n < 256 ∧ v.data = rowI n) : IntHeap [T] := by
  intro pg sl v hv
  unfold hGet at hv
  split at hv
  · cases hv
  · unfold tupAt at hv
    split at hv
    · cases hv
    · rcases hp : pg.toNat with _ | k
      · rw [hp] at hv
        have e : ([T] : List (List (Option Tup))).getD 0 [] = T := rfl
        rw [e] at hv
        cases hx : T[sl.toNat]? with
        | none => rw [hx] at hv; cases hv
        | some u =>
          rw [hx] at hv
          obtain ⟨v', rfl, h1, h2, h3⟩ := h u (List.mem_of_getElem? hx)
          have : v' = v := by simpa using hv
          subst this
          exact ⟨h1, h2, h3⟩
      · rw [hp] at hv
        have e : ([T] : List (List (Option Tup))).getD (k + 1) [] = [] := rfl
        rw [e] at hv
        simp at hv

theorem places_small {T : List (Option Tup)} (h : T.length ≤ 1000000) : ∀ k, k ≤ [T].length → (placesH [T] k).length ≤ 1000000 := by
  intro k hk
  have hl : ∀ (p : Int) (m : Nat), (placesTo p T m).length ≤ m := fun p m => by
    unfold placesTo
    have := List.length_filterMap_le (fun s : Nat => if ((T[s]?).join).isSome then some (p, (s : Int)) else none) (List.range m)
    simpa using this
  rcases k with _ | _ | k
  · exact Nat.zero_le _
  · show ([] ++ placesTo ((0 : Nat) : Int) T T.length).length ≤ 1000000
    rw [List.nil_append]
    exact Nat.le_trans (hl _ _) h
  · simp at hk

theorem small_t : Small ⟨#[116]⟩ := ⟨by decide, by decide, fun i h => by
  obtain rfl : i = 0 := by have : i < 1 := h; omega
  decide +revert⟩
theorem small_a : Small ⟨#[97]⟩ := ⟨by decide, by decide, fun i h => by
  obtain rfl : i = 0 := by have : i < 1 := h; omega
  decide +revert⟩

set_option maxHeartbeats 4000000 in
set_option maxRecDepth 100000 in
theorem awake12 (w : World) : Calls Tryz.prog 4 #[] w fun e w' => e = .returned (.bool true) ∧ Quiet w w' := by
  obtain ⟨POST, hPOST⟩ : ∃ POST : Ending → World → Prop, (fun e w' => e = .returned (.bool true) ∧ Quiet w w') = POST := ⟨_, rfl⟩
  rw [hPOST]
  have HPOST := Lib.hid hPOST
  clear hPOST
  go_enter Tryz.func4, Tryz.ntmps4
  go_wp2_with fail
  refine (law_new 10 (by omega) _).mono ?_
  rintro e w1 ⟨sb, rfl, h1⟩
  have H1 := Lib.hid h1
  clear h1
  go_wp2_with fail
  refine (law_begin H1.out (by decide)).mono ?_
  rintro e w2 ⟨rfl, h2⟩
  have H2 := Lib.hid h2.st
  clear h2
  go_wp2_with fail
  refine (law_one _).mono ?_
  rintro e w3 ⟨b3, rfl, hq3, hn3, hl3, hr3⟩
  have H3 := Lib.hid (H2.out.quietly hq3)
  have HMK : Hid (Calls Tryz.prog 7 #[ptrV sb, .int .u64 1, .string ⟨#[116]⟩, .slice (some ⟨b3, 0, none⟩) 1 1] w3 (fun e w' => e = .returned (.int .i64 0) ∧ LawSt w w' sb (fun _ => False) (stA [1] [] 10 0 (upd (fun _ => none) 1 (some (takeS [1] 1)))))) := by
    refine (law_make (x := 1) (y := takeS [1] 1) (name := ⟨#[116]⟩) (nm := ⟨#[97]⟩) (kd := 1) H3.out (by unfold U64; omega) rfl rfl rfl rfl (by decide) (by unfold U64; decide) small_t small_a ⟨by omega, by omega⟩ (hr3.mono (fun k e => Or.inr ⟨by omega, by omega⟩)) (by omega) (by unfold maxLen; omega)).mono ?_
    rintro e w' ⟨rfl, h⟩
    exact ⟨rfl, h.st.mono (fun _ x => x.elim)⟩
  clear hq3 hn3 hl3 hr3
  go_wp2_with fail
  refine HMK.out.mono ?_
  rintro e w4 ⟨rfl, h4⟩
  have H4 := Lib.hid h4
  clear h4 HMK
  go_wp2_with fail
  refine (law_num 7 _).mono ?_
  rintro e w5 ⟨b5, rfl, hq5, hn5, hl5, hr5⟩
  have HIN : Hid (Calls Tryz.prog 14 #[ptrV sb, .int .u64 1, .string ⟨#[116]⟩, .slice (some ⟨b5, 0, none⟩) 1 1] w5 (fun e w' => e = .returned (.int .i64 0) ∧ LawSt w w' sb (fun _ => False) (stA [1] [[some t7]] 9 1 (upd (fun _ => none) 1 (some (takeS [1] 1)))))) := by
    refine (law_insert (x := 1) (n := 7) (y := takeS [1] 1) (t := tabA) (i := 0) (H' := [[some t7]]) (left' := 9) (p := 0) (q := 0) (H4.out.same hq5) (by unfold U64; omega) rfl (tabA_found rfl) rfl rfl (by unfold U64; decide) rfl rfl (by decide) (by omega) hr5 (by omega) (by unfold maxLen; omega) (by decide) (nine_first (nine_right (by decide) (by decide)) (by decide))).mono ?_
    rintro e w' ⟨rfl, h⟩
    exact ⟨rfl, by have := h.st; rw [stA_ins] at this; exact this⟩
  clear hq5 hn5 hl5 hr5
  go_wp2_with fail
  refine HIN.out.mono ?_
  rintro e w6 ⟨rfl, h6⟩
  have H6 := Lib.hid h6
  clear h6 HIN
  have HCO : Hid (Calls Tryz.prog 17 #[ptrV sb, .int .u64 1] w6 (fun e w' => e = .returned (.int .i64 0) ∧ LawSt w w' sb (fun _ => False) (stA [2] [[some t7]] 9 1 (upd (upd (fun _ => none) 1 (some (takeS [1] 1))) 1 none)))) := by
    refine (law_commit (x := 1) H6.out (by unfold U64; omega)).mono ?_
    rintro e w' ⟨rfl, h⟩
    exact ⟨rfl, h.st⟩
  go_wp2_with fail
  refine HCO.out.mono ?_
  rintro e w7 ⟨rfl, h7⟩
  have H7 := Lib.hid h7
  clear h7 HCO
  go_wp2_with fail
  refine (law_begin H7.out (by decide)).mono ?_
  rintro e w8 ⟨rfl, h8⟩
  have H8 := Lib.hid h8.st
  clear h8
  go_wp2_with fail
  refine (law_begin H8.out (by decide)).mono ?_
  rintro e w9 ⟨rfl, h9⟩
  have H9 : Hid (LawSt w w9 sb (fun _ => False) (stA [2, 1, 1] [[some t7]] 9 1 sn3)) := h9.st
  clear h9
  have HSC : Hid (Calls Tryz.prog 10 #[ptrV sb, .int .u64 2, .string ⟨#[116]⟩] w9 (StoreScanPost w9 [(1, 0, 0, 7)])) :=
    law_scan (x := 2) (y := takeS [2, 1] 2) (t := tabA) (i := 0) (H := [[some t7]]) H9.out (by unfold U64; omega) rfl (tabA_found rfl) rfl rfl (by unfold U64; decide) rfl (places_small (by decide)) (int_one (fun s hs => by
      rw [List.mem_singleton] at hs
      exact ⟨t7, hs, by unfold U64; decide, by unfold U64; decide, 7, by omega, rfl⟩))
  go_wp2_with fail
  refine HSC.out.mono ?_
  rintro e wa ⟨va, M, rfl, hrw, hpm, _⟩
  obtain ⟨b, c, b2, c2, hone⟩ := hrw.one hpm
  obtain rfl := hone.form
  have HONE := Lib.hid hone
  have HA : Hid (LawSt w wa sb (fun k => k = b ∨ k = b2) (stA [2, 1, 1] [[some t7]] 9 1 sn3)) := (H9.out.quietly hrw.quiet).mono (fun k x => Or.inr (by have := hone.nb; have := hone.nb2; omega))
  clear hrw hpm hone HSC
  have HS10 : Hid (∀ W, Only (fun k => ¬ (k = b ∨ k = b2)) wa W → (fun w' => w'.cell? ⟨b, 0, none⟩ = some (.int .u64 1) ∧ w'.cell? ⟨b, 1, none⟩ = some (.int .i64 0) ∧ w'.cell? ⟨b, 2, none⟩ = some (.int .i64 0) ∧ w'.cell? ⟨b, 3, none⟩ = some (.slice (some ⟨b2, 0, none⟩) 1 c2)) W) := fun W ho => by
    obtain ⟨k0, k1, k2, k3, _⟩ := HONE.out.kept ho (fun x => x (Or.inl rfl)) (fun x => x (Or.inr rfl))
    exact ⟨k0, k1, k2, k3⟩
  have HU10 : Hid (∀ W, Quiet wa W → ∀ bn, Rd W (fun k => k = bn) 4 (some ⟨bn, 0, none⟩) 1 (intRow 8) → Calls Tryz.prog 11 #[ptrV sb, .int .u64 2, .string ⟨#[116]⟩, .agg #[.int .u64 1, .int .i64 0, .int .i64 0, .slice (some ⟨b2, 0, none⟩) 1 c2], .slice (some ⟨bn, 0, none⟩) 1 1] W (fun e w' => e = .returned (.int .i64 0) ∧ LawTo w W sb (fun k => k = b ∨ k = b2) (stA [2, 1, 1] [[some (t7.stamp 2 0 1), some t8]] 9 1 sn3) w')) := fun W hq bn hr => by
    refine (law_update (x := 2) (n := 8) (y := takeS [2, 1] 2) (t := tabA) (i := 0) (H := [[some t7]]) (H1 := [[some t7, some t8]]) (H2 := [[some (t7.stamp 2 0 1), some t8]]) (p := 0) (q := 1) (pg := 0) (sl := 0) (z := 0) (v := t7) (code := 0) (left' := 9) (HA.out.same hq) (by unfold U64; omega) rfl (tabA_found rfl) rfl rfl (by unfold U64; decide) rfl rfl (by decide) (by omega) hr (by omega) (by unfold maxLen; omega) rfl (by unfold U64; decide) (by unfold U64; decide) rfl (fun _ => nine_ins (T := [some t7]) (fun s hs => by rw [List.mem_singleton] at hs; exact ⟨t7, hs, rowI_length 7⟩) (by decide) (nine_right (by decide) (by decide)) (rowI_length 8)) (nine_stamp (by decide) (by decide))).mono ?_
    intro e w' hp
    rw [if_pos rfl] at hp
    refine ⟨hp.1, ?_⟩
    have := hp.2
    rw [stA_put] at this
    exact this
  go_wp2_with fail
  refine wp_region_held_drew (S := (fun w' => w'.cell? ⟨b, 0, none⟩ = some (.int .u64 1) ∧ w'.cell? ⟨b, 1, none⟩ = some (.int .i64 0) ∧ w'.cell? ⟨b, 2, none⟩ = some (.int .i64 0) ∧ w'.cell? ⟨b, 3, none⟩ = some (.slice (some ⟨b2, 0, none⟩) 1 c2))) (by kernel_rfl) (HS10.out _ ((Only.refl _ _).drew)) (fun hHeld => ?_)
  simp only [List.size_toArray, List.length_cons, List.length_nil, Nat.reduceAdd]
  have q0 : Quiet wa wa.drew := (Only.refl _ _).drew
  generalize wa.drew = d0 at q0 hHeld ⊢
  (refine zTK 0 (oi := ?_) (v := ?_) ?_ ?_ (Or.inl ⟨?_, ?_⟩) ?_; rotate_left 2; (focus (simp only [zGA, zGZ, zGS] <;> rfl)); (focus (exact fun _ _ _ h => h)); (focus rfl); (focus (intro w hSw; (try dsimp only at hSw); go_simp; (try with_reducible rfl); done)); (try simp only [Act.put, zPA, zPZ, zPS]))
  (refine zTK 1 (oi := ?_) (v := ?_) ?_ ?_ (Or.inl ⟨?_, ?_⟩) ?_; rotate_left 2; (focus (simp only [zGA, zGZ, zGS] <;> rfl)); (focus (exact fun _ _ _ h => h)); (focus rfl); (focus (intro w hSw; (try dsimp only at hSw); go_simp; (try with_reducible rfl); done)); (try simp only [Act.put, zPA, zPZ, zPS]))
  (refine zTK 2 (oi := ?_) (v := ?_) ?_ ?_ (Or.inl ⟨?_, ?_⟩) ?_; rotate_left 2; (focus (simp only [zGA, zGZ, zGS] <;> rfl)); (focus (exact fun _ _ _ h => h)); (focus rfl); (focus (intro w hSw; (try dsimp only at hSw); go_simp; (try with_reducible rfl); done)); (try simp only [Act.put, zPA, zPZ, zPS]))
  (refine zTK 3 (oi := ?_) (v := ?_) ?_ ?_ (Or.inl ⟨?_, ?_⟩) ?_; rotate_left 2; (focus (simp only [zGA, zGZ, zGS] <;> rfl)); (focus (exact fun _ _ _ h => h)); (focus rfl); (focus (intro w hSw; (try dsimp only at hSw); go_simp; (try with_reducible rfl); done)); (try simp only [Act.put, zPA, zPZ, zPS]))
  (refine zTK 4 (oi := ?_) (v := ?_) ?_ ?_ (Or.inl ⟨?_, ?_⟩) ?_; rotate_left 2; (focus (simp only [zGA, zGZ, zGS] <;> rfl)); (focus (exact fun _ _ _ h => h)); (focus rfl); (focus (intro w hSw; (try dsimp only at hSw); go_simp; (try with_reducible rfl); done)); (try simp only [Act.put, zPA, zPZ, zPS]))
  (refine zTK 5 (oi := ?_) (v := ?_) ?_ ?_ (Or.inl ⟨?_, ?_⟩) ?_; rotate_left 2; (focus (simp only [zGA, zGZ, zGS] <;> rfl)); (focus (exact fun _ _ _ h => h)); (focus rfl); (focus (intro w hSw; (try dsimp only at hSw); go_simp; (try with_reducible rfl); done)); (try simp only [Act.put, zPA, zPZ, zPS]))
  (refine zTK 6 (oi := ?_) (v := ?_) ?_ ?_ (Or.inl ⟨?_, ?_⟩) ?_; rotate_left 2; (focus (simp only [zGA, zGZ, zGS] <;> rfl)); (focus (exact fun _ _ _ h => h)); (focus rfl); (focus (intro w hSw; (try dsimp only at hSw); go_simp; (try with_reducible rfl); done)); (try simp only [Act.put, zPA, zPZ, zPS]))
  (refine zTK 7 (oi := ?_) (v := ?_) ?_ ?_ (Or.inl ⟨?_, ?_⟩) ?_; rotate_left 2; (focus (simp only [zGA, zGZ, zGS] <;> rfl)); (focus (exact fun _ _ _ h => h)); (focus rfl); (focus (intro w hSw; (try dsimp only at hSw); go_simp; (try with_reducible rfl); done)); (try simp only [Act.put, zPA, zPZ, zPS]))
  refine wpAnyH_ready (rs := [8]) (by kernel_rfl) (by simp) ?_
  refine AllReadyH.cons (o := ?_) ?_ ?_ AllReadyH.nil
  rotate_left 1
  (focus (simp only [zGA, zGZ, zGS] <;> rfl))
  intro K hK
  go_simp
  go_at_call 12
  refine (law_num 8 _).mono ?_
  rintro e d1 ⟨bn, rfl, hqn, _, _, hrn⟩
  have q1 := q0.trans hqn
  clear hqn
  dsimp only
  refine hK.out _ _ ?_ (fun hHeld => ?_)
  · exact HS10.out _ (q1.mono (fun _ _ x => x.elim))
  clear hK K
  (try simp only [Act.put, zPA, zPZ, zPS])
  refine wpAnyH_ready (rs := [9]) (by kernel_rfl) (by simp) ?_
  refine AllReadyH.cons (o := ?_) ?_ ?_ AllReadyH.nil
  rotate_left 1
  (focus (simp only [zGA, zGZ, zGS] <;> rfl))
  intro K hK
  go_simp
  go_at_call 11
  refine (HU10.out _ q1 bn hrn).mono ?_
  rintro e d2 ⟨rfl, hlt⟩
  have q2 : Only (fun k => ¬ (k = b ∨ k = b2)) _ d2 := (q1.mono (T := fun k => ¬ (k = b ∨ k = b2)) (fun _ _ x => x.elim)).trans' hlt.2 (fun k _ x => x.2)
  dsimp only
  refine hK.out _ _ ?_ (fun hHeld => ?_)
  · exact HS10.out _ q2
  clear hK K
  (try simp only [Act.put, zPA, zPZ, zPS])
  (refine zTK 10 (oi := ?_) (v := ?_) ?_ ?_ (Or.inl ⟨?_, ?_⟩) ?_; rotate_left 2; (focus (simp only [zGA, zGZ, zGS] <;> rfl)); (focus (exact fun _ _ _ h => h)); (focus rfl); (focus (intro w hSw; (try dsimp only at hSw); go_simp; (try with_reducible rfl); done)); (try simp only [Act.put, zPA, zPZ, zPS]))
  (refine zTK 11 (oi := ?_) (v := ?_) ?_ ?_ (Or.inl ⟨?_, ?_⟩) ?_; rotate_left 2; (focus (simp only [zGA, zGZ, zGS] <;> rfl)); (focus (exact fun _ _ _ h => h)); (focus rfl); (focus (intro w hSw; (try dsimp only at hSw); go_simp; (try with_reducible rfl); done)); (try simp only [Act.put, zPA, zPZ, zPS]))
  refine wpAnyH_done (by kernel_rfl) ?_ _
  have HB : Hid (LawSt w d2 sb (fun k => k = b ∨ k = b2) (stA [2, 1, 1] [[some (t7.stamp 2 0 1), some t8]] 9 1 sn3)) := hlt.st
  clear hHeld q0 q1 q2 hlt hrn HS10 HU10
  have HSC : Hid (Calls Tryz.prog 10 #[ptrV sb, .int .u64 3, .string ⟨#[116]⟩] d2 (StoreScanPost d2 [(1, 0, 0, 7)])) :=
    law_scan (x := 3) (y := takeS [2, 1, 1] 3) (t := tabA) (i := 0) (H := [[some (t7.stamp 2 0 1), some t8]]) HB.out (by unfold U64; omega) rfl (tabA_found rfl) rfl rfl (by unfold U64; decide) rfl (places_small (by decide)) (int_one (fun s hs => by
      rcases List.mem_cons.1 hs with e | hs
      · exact ⟨_, e, by unfold U64; decide, by unfold U64; decide, 7, by omega, rfl⟩
      · rw [List.mem_singleton] at hs
        exact ⟨_, hs, by unfold U64; decide, by unfold U64; decide, 8, by omega, rfl⟩))
  clear HONE
  go_wp2_with fail
  refine HSC.out.mono ?_
  rintro e wc ⟨va, M, rfl, hrw, hpm, _⟩
  obtain ⟨b, c, b2, c2, hone⟩ := hrw.one hpm
  obtain rfl := hone.form
  have HONE := Lib.hid hone
  have HA2 : Hid (LawSt w wc sb (fun k => k = b ∨ k = b2) (stA [2, 1, 1] [[some (t7.stamp 2 0 1), some t8]] 9 1 sn3)) := (HB.out.quietly hrw.quiet).mono (fun k x => Or.inr (by have := hone.nb; have := hone.nb2; omega))
  clear hrw hpm hone HSC HB HA
  have HS13 : Hid (∀ W, Only (fun k => ¬ (k = b ∨ k = b2)) wc W → (fun w' => w'.cell? ⟨b, 0, none⟩ = some (.int .u64 1) ∧ w'.cell? ⟨b, 1, none⟩ = some (.int .i64 0) ∧ w'.cell? ⟨b, 2, none⟩ = some (.int .i64 0) ∧ w'.cell? ⟨b, 3, none⟩ = some (.slice (some ⟨b2, 0, none⟩) 1 c2) ∧ w'.cell? ⟨b2, 1, none⟩ = some (.int .i64 7)) W) := fun W ho => by
    obtain ⟨k0, k1, k2, k3, k4⟩ := HONE.out.kept ho (fun x => x (Or.inl rfl)) (fun x => x (Or.inr rfl))
    exact ⟨k0, k1, k2, k3, k4⟩
  have HU13 : Hid (∀ W, Quiet wc W → ∀ bn, Rd W (fun k => k = bn) 4 (some ⟨bn, 0, none⟩) 1 (intRow 9) → Calls Tryz.prog 11 #[ptrV sb, .int .u64 3, .string ⟨#[116]⟩, .agg #[.int .u64 1, .int .i64 0, .int .i64 0, .slice (some ⟨b2, 0, none⟩) 1 c2], .slice (some ⟨bn, 0, none⟩) 1 1] W (fun e w' => e = .returned (.int .i64 11) ∧ LawTo w W sb (fun k => k = b ∨ k = b2) (stA [2, 1, 1] [[some (t7.stamp 2 0 1), some t8]] 9 1 sn3) w')) := fun W hq bn hr => by
    refine (law_update (x := 3) (n := 9) (y := takeS [2, 1, 1] 3) (t := tabA) (i := 0) (H := [[some (t7.stamp 2 0 1), some t8]]) (H1 := []) (p := 0) (q := 0) (pg := 0) (sl := 0) (v := t7.stamp 2 0 1) (code := 11) (left' := 0) (HA2.out.same hq) (by unfold U64; omega) rfl (tabA_found rfl) rfl rfl (by unfold U64; decide) rfl rfl (by decide) (by omega) hr (by omega) (by unfold maxLen; omega) rfl (by unfold U64; decide) (by unfold U64; decide) rfl (fun e => by cases e) rfl).mono ?_
    intro e w' hp
    rw [if_neg (by decide)] at hp
    exact hp
  go_wp2_with fail
  refine wp_region_held_drew (S := (fun w' => w'.cell? ⟨b, 0, none⟩ = some (.int .u64 1) ∧ w'.cell? ⟨b, 1, none⟩ = some (.int .i64 0) ∧ w'.cell? ⟨b, 2, none⟩ = some (.int .i64 0) ∧ w'.cell? ⟨b, 3, none⟩ = some (.slice (some ⟨b2, 0, none⟩) 1 c2) ∧ w'.cell? ⟨b2, 1, none⟩ = some (.int .i64 7))) (by kernel_rfl) (HS13.out _ ((Only.refl _ _).drew)) (fun hHeld => ?_)
  simp only [List.size_toArray, List.length_cons, List.length_nil, Nat.reduceAdd]
  have q0 : Quiet wc wc.drew := (Only.refl _ _).drew
  generalize wc.drew = d0 at q0 hHeld ⊢
  (refine zTK 0 (oi := ?_) (v := ?_) ?_ ?_ (Or.inl ⟨?_, ?_⟩) ?_; rotate_left 2; (focus (simp only [zGA, zGZ, zGS] <;> rfl)); (focus (exact fun _ _ _ h => h)); (focus rfl); (focus (intro w hSw; (try dsimp only at hSw); go_simp; (try with_reducible rfl); done)); (try simp only [Act.put, zPA, zPZ, zPS]))
  (refine zTK 1 (oi := ?_) (v := ?_) ?_ ?_ (Or.inl ⟨?_, ?_⟩) ?_; rotate_left 2; (focus (simp only [zGA, zGZ, zGS] <;> rfl)); (focus (exact fun _ _ _ h => h)); (focus rfl); (focus (intro w hSw; (try dsimp only at hSw); go_simp; (try with_reducible rfl); done)); (try simp only [Act.put, zPA, zPZ, zPS]))
  (refine zTK 2 (oi := ?_) (v := ?_) ?_ ?_ (Or.inl ⟨?_, ?_⟩) ?_; rotate_left 2; (focus (simp only [zGA, zGZ, zGS] <;> rfl)); (focus (exact fun _ _ _ h => h)); (focus rfl); (focus (intro w hSw; (try dsimp only at hSw); go_simp; (try with_reducible rfl); done)); (try simp only [Act.put, zPA, zPZ, zPS]))
  (refine zTK 3 (oi := ?_) (v := ?_) ?_ ?_ (Or.inl ⟨?_, ?_⟩) ?_; rotate_left 2; (focus (simp only [zGA, zGZ, zGS] <;> rfl)); (focus (exact fun _ _ _ h => h)); (focus rfl); (focus (intro w hSw; (try dsimp only at hSw); go_simp; (try with_reducible rfl); done)); (try simp only [Act.put, zPA, zPZ, zPS]))
  (refine zTK 4 (oi := ?_) (v := ?_) ?_ ?_ (Or.inl ⟨?_, ?_⟩) ?_; rotate_left 2; (focus (simp only [zGA, zGZ, zGS] <;> rfl)); (focus (exact fun _ _ _ h => h)); (focus rfl); (focus (intro w hSw; (try dsimp only at hSw); go_simp; (try with_reducible rfl); done)); (try simp only [Act.put, zPA, zPZ, zPS]))
  (refine zTK 5 (oi := ?_) (v := ?_) ?_ ?_ (Or.inl ⟨?_, ?_⟩) ?_; rotate_left 2; (focus (simp only [zGA, zGZ, zGS] <;> rfl)); (focus (exact fun _ _ _ h => h)); (focus rfl); (focus (intro w hSw; (try dsimp only at hSw); go_simp; (try with_reducible rfl); done)); (try simp only [Act.put, zPA, zPZ, zPS]))
  (refine zTK 6 (oi := ?_) (v := ?_) ?_ ?_ (Or.inl ⟨?_, ?_⟩) ?_; rotate_left 2; (focus (simp only [zGA, zGZ, zGS] <;> rfl)); (focus (exact fun _ _ _ h => h)); (focus rfl); (focus (intro w hSw; (try dsimp only at hSw); go_simp; (try with_reducible rfl); done)); (try simp only [Act.put, zPA, zPZ, zPS]))
  (refine zTK 7 (oi := ?_) (v := ?_) ?_ ?_ (Or.inl ⟨?_, ?_⟩) ?_; rotate_left 2; (focus (simp only [zGA, zGZ, zGS] <;> rfl)); (focus (exact fun _ _ _ h => h)); (focus rfl); (focus (intro w hSw; (try dsimp only at hSw); go_simp; (try with_reducible rfl); done)); (try simp only [Act.put, zPA, zPZ, zPS]))
  (refine zTK 8 (oi := ?_) (v := ?_) ?_ ?_ (Or.inl ⟨?_, ?_⟩) ?_; rotate_left 2; (focus (simp only [zGA, zGZ, zGS] <;> rfl)); (focus (exact fun _ _ _ h => h)); (focus rfl); (focus (intro w hSw; (try dsimp only at hSw); go_simp; (try with_reducible rfl); done)); (try simp only [Act.put, zPA, zPZ, zPS]))
  (refine zTK 9 (oi := ?_) (v := ?_) ?_ ?_ (Or.inl ⟨?_, ?_⟩) ?_; rotate_left 2; (focus (simp only [zGA, zGZ, zGS] <;> rfl)); (focus (exact fun _ _ _ h => h)); (focus rfl); (focus (intro w hSw; (try dsimp only at hSw); go_simp; (try with_reducible rfl); done)); (try simp only [Act.put, zPA, zPZ, zPS]))
  (refine zTK 10 (oi := ?_) (v := ?_) ?_ ?_ (Or.inl ⟨?_, ?_⟩) ?_; rotate_left 2; (focus (simp only [zGA, zGZ, zGS] <;> rfl)); (focus (exact fun _ _ _ h => h)); (focus rfl); (focus (intro w hSw; (try dsimp only at hSw); go_simp; (try with_reducible rfl); done)); (try simp only [Act.put, zPA, zPZ, zPS]))
  (refine zTK 11 (oi := ?_) (v := ?_) ?_ ?_ (Or.inl ⟨?_, ?_⟩) ?_; rotate_left 2; (focus (simp only [zGA, zGZ, zGS] <;> rfl)); (focus (exact fun _ _ _ h => h)); (focus rfl); (focus (intro w hSw; (try dsimp only at hSw); go_simp; (try with_reducible rfl); done)); (try simp only [Act.put, zPA, zPZ, zPS]))
  (refine zTK 12 (oi := ?_) (v := ?_) ?_ ?_ (Or.inl ⟨?_, ?_⟩) ?_; rotate_left 2; (focus (simp only [zGA, zGZ, zGS] <;> rfl)); (focus (exact fun _ _ _ h => h)); (focus rfl); (focus (intro w hSw; (try dsimp only at hSw); go_simp; (try with_reducible rfl); done)); (try simp only [Act.put, zPA, zPZ, zPS]))
  (refine zTK 13 (oi := ?_) (v := ?_) ?_ ?_ (Or.inl ⟨?_, ?_⟩) ?_; rotate_left 2; (focus (simp only [zGA, zGZ, zGS] <;> rfl)); (focus (exact fun _ _ _ h => h)); (focus rfl); (focus (intro w hSw; (try dsimp only at hSw); go_simp; (try with_reducible rfl); done)); (try simp only [Act.put, zPA, zPZ, zPS]))
  (refine zTK 14 (oi := ?_) (v := ?_) ?_ ?_ (Or.inl ⟨?_, ?_⟩) ?_; rotate_left 2; (focus (simp only [zGA, zGZ, zGS] <;> rfl)); (focus (exact fun _ _ _ h => h)); (focus rfl); (focus (intro w hSw; (try dsimp only at hSw); go_simp; (try with_reducible rfl); done)); (try simp only [Act.put, zPA, zPZ, zPS]))
  (refine zTK 15 (oi := ?_) (v := ?_) ?_ ?_ (Or.inl ⟨?_, ?_⟩) ?_; rotate_left 2; (focus (simp only [zGA, zGZ, zGS] <;> rfl)); (focus (exact fun _ _ _ h => h)); (focus rfl); (focus (intro w hSw; (try dsimp only at hSw); go_simp; (try with_reducible rfl); done)); (try simp only [Act.put, zPA, zPZ, zPS]))
  (refine zTK 16 (oi := ?_) (v := ?_) ?_ ?_ (Or.inl ⟨?_, ?_⟩) ?_; rotate_left 2; (focus (simp only [zGA, zGZ, zGS] <;> rfl)); (focus (exact fun _ _ _ h => h)); (focus rfl); (focus (intro w hSw; (try dsimp only at hSw); go_simp; (try with_reducible rfl); done)); (try simp only [Act.put, zPA, zPZ, zPS]))
  (refine zTK 17 (oi := ?_) (v := ?_) ?_ ?_ (Or.inl ⟨?_, ?_⟩) ?_; rotate_left 2; (focus (simp only [zGA, zGZ, zGS] <;> rfl)); (focus (exact fun _ _ _ h => h)); (focus rfl); (focus (intro w hSw; (try dsimp only at hSw); go_simp; (try with_reducible rfl); done)); (try simp only [Act.put, zPA, zPZ, zPS]))
  refine wpAnyH_ready (rs := [18]) (by kernel_rfl) (by simp) ?_
  refine AllReadyH.cons (o := ?_) ?_ ?_ AllReadyH.nil
  rotate_left 1
  (focus (simp only [zGA, zGZ, zGS] <;> rfl))
  intro K hK
  go_simp
  go_at_call 12
  refine (law_num 9 _).mono ?_
  rintro e d1 ⟨bn, rfl, hqn, _, _, hrn⟩
  have q1 := q0.trans hqn
  clear hqn
  dsimp only
  refine hK.out _ _ ?_ (fun hHeld => ?_)
  · exact HS13.out _ (q1.mono (fun _ _ x => x.elim))
  clear hK K
  (try simp only [Act.put, zPA, zPZ, zPS])
  refine wpAnyH_ready (rs := [19]) (by kernel_rfl) (by simp) ?_
  refine AllReadyH.cons (o := ?_) ?_ ?_ AllReadyH.nil
  rotate_left 1
  (focus (simp only [zGA, zGZ, zGS] <;> rfl))
  intro K hK
  go_simp
  go_at_call 11
  refine (HU13.out _ q1 bn hrn).mono ?_
  rintro e d2 ⟨rfl, hlt⟩
  have q2 : Only (fun k => ¬ (k = b ∨ k = b2)) _ d2 := (q1.mono (T := fun k => ¬ (k = b ∨ k = b2)) (fun _ _ x => x.elim)).trans' hlt.2 (fun k _ x => x.2)
  dsimp only
  refine hK.out _ _ ?_ (fun hHeld => ?_)
  · exact HS13.out _ q2
  clear hK K
  (try simp only [Act.put, zPA, zPZ, zPS])
  (refine zTK 20 (oi := ?_) (v := ?_) ?_ ?_ (Or.inl ⟨?_, ?_⟩) ?_; rotate_left 2; (focus (simp only [zGA, zGZ, zGS] <;> rfl)); (focus (exact fun _ _ _ h => h)); (focus rfl); (focus (intro w hSw; (try dsimp only at hSw); go_simp; (try with_reducible rfl); done)); (try simp only [Act.put, zPA, zPZ, zPS]))
  (refine zTK 21 (oi := ?_) (v := ?_) ?_ ?_ (Or.inl ⟨?_, ?_⟩) ?_; rotate_left 2; (focus (simp only [zGA, zGZ, zGS] <;> rfl)); (focus (exact fun _ _ _ h => h)); (focus rfl); (focus (intro w hSw; (try dsimp only at hSw); go_simp; (try with_reducible rfl); done)); (try simp only [Act.put, zPA, zPZ, zPS]))
  (refine zTK 22 (oi := ?_) (v := ?_) ?_ ?_ (Or.inl ⟨?_, ?_⟩) ?_; rotate_left 2; (focus (simp only [zGA, zGZ, zGS] <;> rfl)); (focus (exact fun _ _ _ h => h)); (focus rfl); (focus (intro w hSw; (try dsimp only at hSw); go_simp; (try with_reducible rfl); done)); (try simp only [Act.put, zPA, zPZ, zPS]))
  refine wpAnyH_done (by kernel_rfl) ?_ _
  have HEND : Hid (POST (.returned (.bool true)) d2) := by
    rw [← HPOST.out]
    exact ⟨rfl, hlt.st.quiet⟩
  clear hHeld q0 q1 q2 hlt hrn HS13 HU13 HONE
  go_wp2
  exact HEND.out

end Go.Proofs.YtmkaomglecfmfaaGreatDoor

namespace Go.Proofs.YtmkaomglecfmfaaGreatDoor
open Go.RowKit Go.Lap

section
variable {w0 wr w1 w3 w4 : World} {v v' : Value} {M : List RowM} {sb : Nat} {s s' : St}

theorem rowsV_get : ∀ (M : List RowM) (i : Nat) (m : RowM), M[i]? = some m → (rowsV M)[i * 4]? = some (.int .u64 (m.id : Int)) ∧ (rowsV M)[i * 4 + 1]? = some (.int .i64 m.pg) ∧ (rowsV M)[i * 4 + 2]? = some (.int .i64 m.sl) ∧ (rowsV M)[i * 4 + 3]? = some (.slice m.A 1 m.c)
  | [], i, m, h => by simp at h
  | x :: M, 0, m, h => by
    simp at h
    subst h
    exact ⟨rfl, rfl, rfl, rfl⟩
  | x :: M, i + 1, m, h => by
    have ih := rowsV_get M i m (by simpa using h)
    have e : rowsV (x :: M) = .int .u64 (x.id : Int) :: .int .i64 x.pg :: .int .i64 x.sl :: .slice x.A 1 x.c :: rowsV M := rfl
    rw [e, show (i + 1) * 4 = i * 4 + 1 + 1 + 1 + 1 by omega]
    exact ih

end

end Go.Proofs.YtmkaomglecfmfaaGreatDoor

namespace Go.Proofs.YtmkaomglecfmfaaGreatDoor
open Go.RowKit Go.Lap

theorem rows_at {w : World} {v : Value} {M : List RowM} {q n : Nat} {m : RowM} (hn : M.length = n) (h : w.ownsRow 0 44 4 v n (rowsV M)) (hm : M[q]? = some m) : ∃ b c, v = .slice (some ⟨b, 0, none⟩) n c ∧ b < w.heap.size ∧ w.cell? ⟨b, q * 4, none⟩ = some (.int .u64 (m.id : Int)) ∧ w.cell? ⟨b, q * 4 + 1, none⟩ = some (.int .i64 m.pg) ∧ w.cell? ⟨b, q * 4 + 2, none⟩ = some (.int .i64 m.sl) ∧ w.cell? ⟨b, q * 4 + 3, none⟩ = some (.slice m.A 1 m.c) := by
  subst hn
  have hq := (List.getElem?_eq_some_iff.1 hm).1
  rcases owns_cases h with ⟨_, e⟩ | ⟨b, c, rfl, _, _⟩
  · omega
  obtain ⟨k0, k1, k2, k3⟩ := rowsV_get M q m hm
  obtain ⟨cb, hcb⟩ := own_blk h (k := b) rfl
  have c0 := h.cells (by rfl) _ _ k0
  have c1 := h.cells (by rfl) _ _ k1
  have c2 := h.cells (by rfl) _ _ k2
  have c3 := h.cells (by rfl) _ _ k3
  rw [add_none, Nat.zero_add] at c0 c1 c2 c3
  exact ⟨b, c, rfl, lt_of_get hcb, c0, c1, c2, c3⟩

theorem ints_one {w wr : World} {v : Value} {n : Nat} (h : IntsW w wr v [n]) : ∃ b c, v = .slice (some ⟨b, 0, none⟩) 1 c ∧ wr.cell? ⟨b, 0, none⟩ = some (.int .i64 (n : Int)) := by
  rcases owns_cases h.own with ⟨_, e⟩ | ⟨b, c, rfl, _, _⟩
  · cases e
  have c0 := h.own.cells (by rfl) 0 (.int .i64 (n : Int)) rfl
  rw [add_none, Nat.zero_add] at c0
  exact ⟨b, c, rfl, c0⟩

theorem ints_nil {w wr : World} {v : Value} (h : IntsW w wr v []) : ∃ A c, v = .slice A 0 c := by
  obtain ⟨A, c, e, _⟩ := own_form h.own
  exact ⟨A, c, e⟩

/-- What a round's change leaves. -/
def EntCut (w0 : World) (sb j : Nat) (so : Bool) (wx : World) : Prop := ∃ (H2 : List (List (Option Tup))) (left2 last2 c2 : Nat) (o2 : Option (List Ent)), LawSt w0 wx sb (fun _ => False) (stE H2 left2 last2 o2) ∧ EntSt (j + 1) H2 left2 last2 c2 o2 ∧ o2.isSome = so

theorem EntTo.cut {w0 w w' : World} {sb i : Nat} {K : Nat → Prop} {oi : Option (List Ent)} {e : Ending} {so : Bool} (h : EntTo w0 w sb K (i + 1) oi e w') (hs : oi.isSome = so) : e = .returned (.int .i64 0) ∧ EntCut w0 sb i so w' ∧ Only (fun k => w0.heap.size ≤ k ∧ ¬ K k) w w' := by
  obtain ⟨h1, H, left, last, c, oi', h2, h3, h4⟩ := h
  exact ⟨h1, ⟨H, left, last, c, oi', h2.st.mono (fun _ x => x.elim), h3, by rw [h4, hs]⟩, h2.2⟩

set_option maxHeartbeats 8000000 in
set_option maxRecDepth 100000 in
theorem entries_walk (am : Nat) (hat : am < 256) (A : Option Addr) (cap : Nat) (l : List Nat) (hb : ∀ x ∈ l, x < 256) (w : World) (hr : Rd w (fun _ => True) 1 A l.length (bytesV l)) :
    Calls Tryz.prog 3 #[.slice A l.length cap, .int .u8 (am : Int)] w fun e w' => e = .returned (.bool true) ∧ Quiet w w' := by
  obtain ⟨POST, hPOST⟩ : ∃ POST : Ending → World → Prop, (fun e w' => e = .returned (.bool true) ∧ Quiet w w') = POST := ⟨_, rfl⟩
  rw [hPOST]
  have HPOST := Lib.hid hPOST
  have HR := Lib.hid hr
  have HB := Lib.hid hb
  clear hPOST hr hb
  obtain ⟨len, hlen⟩ : ∃ len, l.length = len := ⟨_, rfl⟩
  rw [hlen]
  have HLEN := Lib.hid hlen
  clear hlen
  obtain ⟨ai, hai⟩ : ∃ ai : Nat, am % 31 = ai := ⟨_, rfl⟩
  have hai2 : (am : Int) % 31 = (ai : Int) := by omega
  have HAI := Lib.hid hai
  clear hai
  go_enter Tryz.func3, Tryz.ntmps3
  go_wp2_with fail
  refine (awake12 _).mono ?_
  rintro e w0 ⟨rfl, hq0⟩
  have HQ0 := Lib.hid hq0
  clear hq0
  go_wp2_with fail
  refine (law_new 256 (by omega) _).mono ?_
  rintro e w1 ⟨sb, rfl, h1⟩
  have H1 := Lib.hid h1
  clear h1
  go_wp2_with fail
  have HBG : Hid (Calls Tryz.prog 6 #[ptrV sb] w1 (fun e w' => e = .returned (.tuple #[.int .u64 1, .int .i64 0]) ∧ LawSt w0 w' sb (fun _ => False) (begSt (st0 256)))) := by
    refine (law_begin H1.out (by decide)).mono ?_
    rintro e w' ⟨rfl, h⟩
    exact ⟨rfl, h.st⟩
  refine HBG.out.mono ?_
  rintro e w2 ⟨rfl, h2⟩
  have H2 := Lib.hid h2
  clear h2 HBG
  go_wp2_with fail
  refine (law_one _).mono ?_
  rintro e w3 ⟨b3, rfl, hq3, hn3, hl3, hr3⟩
  have H3 := Lib.hid (H2.out.quietly hq3)
  have HMK : Hid (Calls Tryz.prog 7 #[ptrV sb, .int .u64 1, .string ⟨#[116]⟩, .slice (some ⟨b3, 0, none⟩) 1 1] w3 (fun e w' => e = .returned (.int .i64 0) ∧ LawSt w0 w' sb (fun _ => False) (stE [] 256 0 none))) := by
    refine (law_make (x := 1) (y := takeS [1] 1) (name := ⟨#[116]⟩) (nm := ⟨#[97]⟩) (kd := 1) H3.out (by unfold U64; omega) rfl rfl rfl rfl (by decide) (by unfold U64; decide) small_t small_a ⟨by omega, by omega⟩ (hr3.mono (fun k e => Or.inr ⟨by omega, by omega⟩)) (by omega) (by unfold maxLen; omega)).mono ?_
    rintro e w' ⟨rfl, h⟩
    exact ⟨rfl, h.st.mono (fun _ x => x.elim)⟩
  clear hq3 hn3 hl3 hr3
  go_wp2_with fail
  refine HMK.out.mono ?_
  rintro e w4 ⟨rfl, h4⟩
  have H4 := Lib.hid h4
  clear h4 HMK
  go_wp2_with fail
  go_loopw [34, 9, 10, 11, 12, 13, 14, 15, 68, 91] (fun i _ _ _ _ _ _ _ _ _ wr => ∃ (j : Nat) (H : List (List (Option Tup))) (left last c : Nat) (oi : Option (List Ent)), j ≤ len ∧ j ≤ 30 ∧ i = .int .i64 (j : Int) ∧ LawSt w0 wr sb (fun _ => False) (stE H left last oi) ∧ EntSt j H left last c oi ∧ oi.isSome = decide (ai < j)) (fun i _ _ _ _ _ _ _ _ _ _ => len - (intOf i).toNat)
  case atStart => exact ⟨0, [], 256, 0, 0, none, Nat.zero_le _, Nat.zero_le _, rfl, H4.out, EntSt.start, rfl⟩
  case round =>
    obtain ⟨j, H, left, last, c, oi, hj, hj30, rfl, hst, hes, hoi⟩ := hrel
    have HST := Lib.hid hst
    have HES := Lib.hid hes
    have HOI := Lib.hid hoi
    have HEND : Hid (POST (.returned (.bool true)) wr) := by
      rw [← HPOST.out]
      exact ⟨rfl, HQ0.out.trans hst.quiet⟩
    clear hst hes hoi
    by_cases hlt : j < len
    · obtain ⟨b, hbj⟩ : ∃ b, l[j]? = some b := ⟨_, List.getElem?_eq_getElem (by have := HLEN.out; omega)⟩
      have hb256 := HB.out b (List.mem_of_getElem? hbj)
      obtain ⟨ab, off, rfl, _, hcc⟩ := (HR.out.kept (HQ0.out.trans HST.out.quiet) (fun _ _ x => x)).cells (by rw [bytes_len]; have := HLEN.out; omega)
      have hcb := hcc j (.int .u8 (b : Int)) (by simp [bytesV, hbj])
      have hlb := cell_lt hcb
      dsimp only at hlb
      clear hcc hbj
      by_cases h30 : j = 30
      · subst h30
        go_wp2
        exact HEND.out
      · have hl30 : j < 30 := by omega
        by_cases ha : j = ai
        · obtain rfl : ai = j := ha.symm
          have hn : oi = none := by
            have := HOI.out
            cases oi with
            | none => rfl
            | some es => simp at this
          subst hn
          have HIX := Lib.hid (ent_index HST.out HES.out (by omega))
          go_wp2_with fail
          refine HIX.out.mono ?_
          rintro e wS ⟨rfl, es, hlt2, hes2⟩
          have HST2 := Lib.hid hlt2.st
          have HES2 := Lib.hid hes2
          have HOI2 : Hid ((some es : Option (List Ent)).isSome = decide (ai < ai + 1)) := by simp [Hid]
          clear HIX hlt2 hes2 hcb hlb
          go_wp2_with fail
          have HSC := Lib.hid (ent_scan HST2.out HES2.out (by omega))
          refine HSC.out.mono ?_
          rintro e w6 ⟨vl, M, rfl, hW, hperm, _⟩
          obtain ⟨Al, cl, rfl, hcl, hml, _⟩ := own_form hW.own
          have HLK : Hid (LawSt w0 w6 sb (fun k => (Value.slice Al M.length cl).ownBlock = some k) (stE H left last (some es))) := (HST2.out.quietly hW.quiet).mono (fun k e => Or.inr ⟨hW.new k e, (hW.own.lt k e).2⟩)
          have HMP := Lib.hid hperm
          have HMO := Lib.hid hW.own
          obtain ⟨ml, hmm⟩ : ∃ ml, M.length = ml := ⟨_, rfl⟩
          rw [hmm] at HLK HMO hcl ⊢
          have HMM := Lib.hid hmm
          clear hmm
          unfold maxLen at hml
          clear hW hperm HSC
          go_upto_block 2 with (fail)
          go_cut [] (fun wx => EntCut w0 sb ai ((some es) : Option (List Ent)).isSome wx)
          case first =>
            by_cases hm0 : 0 < ml
            · by_cases z1 : bits BinOp.and IntKind.u8 (b : Int) 3 = 1
              · as_aux_lemma =>
                obtain ⟨q, hqv⟩ : ∃ q, b / 4 % ml = q := ⟨_, rfl⟩
                have hql : q < ml := by rw [← hqv]; exact Nat.mod_lt _ hm0
                have hqi : (b : Int) / 4 % (ml : Int) = (q : Int) := by rw [← hqv]; simp
                have hqt : ((b : Int) / 4).tmod (ml : Int) = (q : Int) := by rw [Int.tmod_eq_emod_of_nonneg (by omega)]; exact hqi
                have hmz : ¬ ml = 0 := by omega
                have hwb : IntKind.i64.wrap (b : Int) = (b : Int) := wrap_i64_of _ (by omega) (by omega)
                obtain ⟨m, hmq⟩ : ∃ m, M[q]? = some m := ⟨_, List.getElem?_eq_getElem (by rw [HMM.out]; exact hql)⟩
                have hmr : m.told ∈ seenR H [1] (takeS [1] 1) (placesH H H.length) := HMP.out.mem_iff.1 (List.mem_map_of_mem (List.mem_of_getElem? hmq))
                obtain ⟨ba, ca, hba, hbl, k0, k1, k2, k3⟩ := rows_at HMM.out HMO.out hmq
                injection hba with e1 _ e2
                subst e1 e2
                have HUPD : Hid (∀ W, Quiet w6 W → ∀ bn, Rd W (fun k => k = bn) 4 (some ⟨bn, 0, none⟩) 1 (intRow (b : Int)) → Calls Tryz.prog 11 #[ptrV sb, .int .u64 1, .string ⟨#[116]⟩, .agg #[.int .u64 (m.id : Int), .int .i64 m.pg, .int .i64 m.sl, .slice m.A 1 m.c], .slice (some ⟨bn, 0, none⟩) 1 1] W (fun e w' => e = .returned (.int .i64 0) ∧ EntCut w0 sb ai ((some es) : Option (List Ent)).isSome w' ∧ Only (fun k => w0.heap.size ≤ k ∧ ¬ (Value.slice (some ⟨ba, 0, none⟩) ml cl).ownBlock = some k) W w')) := fun W hq bn hr =>
                  (ent_update (r := m.told) (HLK.out.same hq) HES2.out (by omega) hmr hb256 hr (by omega) (by unfold maxLen; omega)).mono (fun e w' h => h.cut rfl)
                have HS18 : Hid (∀ W, Only (fun k => k ≠ ba) w6 W → (fun w' => w'.cell? ⟨ba, q * 4, none⟩ = some (.int .u64 (m.id : Int)) ∧ w'.cell? ⟨ba, q * 4 + 1, none⟩ = some (.int .i64 m.pg) ∧ w'.cell? ⟨ba, q * 4 + 2, none⟩ = some (.int .i64 m.sl) ∧ w'.cell? ⟨ba, q * 4 + 3, none⟩ = some (.slice m.A 1 m.c)) W) := fun W ho => ⟨ho.cell k0 (fun x => x rfl), ho.cell k1 (fun x => x rfl), ho.cell k2 (fun x => x rfl), ho.cell k3 (fun x => x rfl)⟩
                clear hqv hmq hmr k0 k1 k2 k3
                go_wp2_with fail
                refine wp_region_held_drew (S := (fun w' => w'.cell? ⟨ba, q * 4, none⟩ = some (.int .u64 (m.id : Int)) ∧ w'.cell? ⟨ba, q * 4 + 1, none⟩ = some (.int .i64 m.pg) ∧ w'.cell? ⟨ba, q * 4 + 2, none⟩ = some (.int .i64 m.sl) ∧ w'.cell? ⟨ba, q * 4 + 3, none⟩ = some (.slice m.A 1 m.c))) (by kernel_rfl) (HS18.out _ ((Only.refl _ _).drew)) (fun hHeld => ?_)
                simp only [List.size_toArray, List.length_cons, List.length_nil, Nat.reduceAdd]
                have q0 : Quiet w6 w6.drew := (Only.refl _ _).drew
                generalize w6.drew = d0 at q0 hHeld ⊢
                (refine zTK 0 (oi := ?_) (v := ?_) ?_ ?_ (Or.inl ⟨?_, ?_⟩) ?_; rotate_left 2; (focus (simp only [zGA, zGZ, zGS] <;> rfl)); (focus (exact fun _ _ _ h => h)); (focus rfl); (focus (intro w hSw; (try dsimp only at hSw); go_simp; (try with_reducible rfl); done)); (try simp only [Act.put, zPA, zPZ, zPS]))
                (refine zTK 1 (oi := ?_) (v := ?_) ?_ ?_ (Or.inl ⟨?_, ?_⟩) ?_; rotate_left 2; (focus (simp only [zGA, zGZ, zGS] <;> rfl)); (focus (exact fun _ _ _ h => h)); (focus rfl); (focus (intro w hSw; (try dsimp only at hSw); go_simp; (try with_reducible rfl); done)); (try simp only [Act.put, zPA, zPZ, zPS]))
                (refine zTK 2 (oi := ?_) (v := ?_) ?_ ?_ (Or.inl ⟨?_, ?_⟩) ?_; rotate_left 2; (focus (simp only [zGA, zGZ, zGS] <;> rfl)); (focus (exact fun _ _ _ h => h)); (focus rfl); (focus (intro w hSw; (try dsimp only at hSw); go_simp; (try with_reducible rfl); done)); (try simp only [Act.put, zPA, zPZ, zPS]))
                (refine zTK 3 (oi := ?_) (v := ?_) ?_ ?_ (Or.inl ⟨?_, ?_⟩) ?_; rotate_left 2; (focus (simp only [zGA, zGZ, zGS] <;> rfl)); (focus (exact fun _ _ _ h => h)); (focus rfl); (focus (intro w hSw; (try dsimp only at hSw); go_simp; (try with_reducible rfl); done)); (try simp only [Act.put, zPA, zPZ, zPS]))
                (refine zTK 4 (oi := ?_) (v := ?_) ?_ ?_ (Or.inl ⟨?_, ?_⟩) ?_; rotate_left 2; (focus (simp only [zGA, zGZ, zGS] <;> rfl)); (focus (exact fun _ _ _ h => h)); (focus rfl); (focus (intro w hSw; (try dsimp only at hSw); go_simp; (try with_reducible rfl); done)); (try simp only [Act.put, zPA, zPZ, zPS]))
                (refine zTK 5 (oi := ?_) (v := ?_) ?_ ?_ (Or.inl ⟨?_, ?_⟩) ?_; rotate_left 2; (focus (simp only [zGA, zGZ, zGS] <;> rfl)); (focus (exact fun _ _ _ h => h)); (focus rfl); (focus (intro w hSw; (try dsimp only at hSw); go_simp; (try with_reducible rfl); done)); (try simp only [Act.put, zPA, zPZ, zPS]))
                (refine zTK 6 (oi := ?_) (v := ?_) ?_ ?_ (Or.inl ⟨?_, ?_⟩) ?_; rotate_left 2; (focus (simp only [zGA, zGZ, zGS] <;> rfl)); (focus (exact fun _ _ _ h => h)); (focus rfl); (focus (intro w hSw; (try dsimp only at hSw); go_simp; (try with_reducible rfl); done)); (try simp only [Act.put, zPA, zPZ, zPS]))
                (refine zTK 7 (oi := ?_) (v := ?_) ?_ ?_ (Or.inl ⟨?_, ?_⟩) ?_; rotate_left 2; (focus (simp only [zGA, zGZ, zGS] <;> rfl)); (focus (exact fun _ _ _ h => h)); (focus rfl); (focus (intro w hSw; (try dsimp only at hSw); go_simp; (try with_reducible rfl); done)); (try simp only [Act.put, zPA, zPZ, zPS]))
                (refine zTK 8 (oi := ?_) (v := ?_) ?_ ?_ (Or.inl ⟨?_, ?_⟩) ?_; rotate_left 2; (focus (simp only [zGA, zGZ, zGS] <;> rfl)); (focus (exact fun _ _ _ h => h)); (focus rfl); (focus (intro w hSw; (try dsimp only at hSw); go_simp; (try with_reducible rfl); done)); (try simp only [Act.put, zPA, zPZ, zPS]))
                (refine zTK 9 (oi := ?_) (v := ?_) ?_ ?_ (Or.inl ⟨?_, ?_⟩) ?_; rotate_left 2; (focus (simp only [zGA, zGZ, zGS] <;> rfl)); (focus (exact fun _ _ _ h => h)); (focus rfl); (focus (intro w hSw; (try dsimp only at hSw); go_simp; (try with_reducible rfl); done)); (try simp only [Act.put, zPA, zPZ, zPS]))
                (refine zTK 10 (oi := ?_) (v := ?_) ?_ ?_ (Or.inl ⟨?_, ?_⟩) ?_; rotate_left 2; (focus (simp only [zGA, zGZ, zGS] <;> rfl)); (focus (exact fun _ _ _ h => h)); (focus rfl); (focus (intro w hSw; (try dsimp only at hSw); go_simp; (try with_reducible rfl); done)); (try simp only [Act.put, zPA, zPZ, zPS]))
                refine wpAnyH_ready (rs := [11]) (by kernel_rfl) (by simp) ?_
                refine AllReadyH.cons (o := ?_) ?_ ?_ AllReadyH.nil
                rotate_left 1
                (focus (simp only [zGA, zGZ, zGS] <;> rfl))
                intro K hK
                go_simp
                go_at_call 12
                refine (law_num (b : Int) _).mono ?_
                rintro e d1 ⟨bn, rfl, hqn, _, _, hrn⟩
                have q1 := q0.trans hqn
                clear hqn
                dsimp only
                refine hK.out _ _ ?_ (fun hHeld => ?_)
                · exact HS18.out _ (q1.mono (fun _ _ x => x.elim))
                clear hK K
                (try simp only [Act.put, zPA, zPZ, zPS])
                refine wpAnyH_ready (rs := [12]) (by kernel_rfl) (by simp) ?_
                refine AllReadyH.cons (o := ?_) ?_ ?_ AllReadyH.nil
                rotate_left 1
                (focus (simp only [zGA, zGZ, zGS] <;> rfl))
                intro K hK
                go_simp
                go_at_call 11
                refine (HUPD.out _ q1 bn hrn).mono ?_
                rintro e d2 ⟨rfl, hcu, ho2⟩
                have q2 := (q1.mono (T := fun k => k ≠ ba) (fun _ _ x => x.elim)).trans' ho2 (fun k _ x e => x.2 (by rw [e]; rfl))
                dsimp only
                refine hK.out _ _ ?_ (fun hHeld => ?_)
                · exact HS18.out _ q2
                clear hK K
                (try simp only [Act.put, zPA, zPZ, zPS])
                (refine zTK 13 (oi := ?_) (v := ?_) ?_ ?_ (Or.inl ⟨?_, ?_⟩) ?_; rotate_left 2; (focus (simp only [zGA, zGZ, zGS] <;> rfl)); (focus (exact fun _ _ _ h => h)); (focus rfl); (focus (intro w hSw; (try dsimp only at hSw); go_simp; (try with_reducible rfl); done)); (try simp only [Act.put, zPA, zPZ, zPS]))
                refine wpAnyH_done (by kernel_rfl) ?_ _
                have HCU := Lib.hid hcu
                clear hHeld q0 q1 q2 hcu ho2 hrn HS18 HUPD
                go_wp2_with fail
                go_meet
                exact HCU.out
              · by_cases z2 : bits BinOp.and IntKind.u8 (b : Int) 3 = 2
                · as_aux_lemma =>
                  obtain ⟨q, hqv⟩ : ∃ q, b / 4 % ml = q := ⟨_, rfl⟩
                  have hql : q < ml := by rw [← hqv]; exact Nat.mod_lt _ hm0
                  have hqi : (b : Int) / 4 % (ml : Int) = (q : Int) := by rw [← hqv]; simp
                  have hqt : ((b : Int) / 4).tmod (ml : Int) = (q : Int) := by rw [Int.tmod_eq_emod_of_nonneg (by omega)]; exact hqi
                  have hmz : ¬ ml = 0 := by omega
                  have hwb : IntKind.i64.wrap (b : Int) = (b : Int) := wrap_i64_of _ (by omega) (by omega)
                  obtain ⟨m, hmq⟩ : ∃ m, M[q]? = some m := ⟨_, List.getElem?_eq_getElem (by rw [HMM.out]; exact hql)⟩
                  have hmr : m.told ∈ seenR H [1] (takeS [1] 1) (placesH H H.length) := HMP.out.mem_iff.1 (List.mem_map_of_mem (List.mem_of_getElem? hmq))
                  obtain ⟨ba, ca, hba, hbl, k0, k1, k2, k3⟩ := rows_at HMM.out HMO.out hmq
                  injection hba with e1 _ e2
                  subst e1 e2
                  have HDEL : Hid (Calls Tryz.prog 13 #[ptrV sb, .int .u64 1, .string ⟨#[116]⟩, .agg #[.int .u64 (m.id : Int), .int .i64 m.pg, .int .i64 m.sl, .slice m.A 1 m.c]] w6 (fun e w' => e = .returned (.int .i64 0) ∧ EntCut w0 sb ai ((some es) : Option (List Ent)).isSome w')) :=
                    (ent_delete (r := m.told) HLK.out HES2.out (by omega) hmr).mono (fun e w' h => ⟨(h.cut rfl).1, (h.cut rfl).2.1⟩)
                  clear hqv hmq hmr
                  go_wp2_with fail
                  refine HDEL.out.mono ?_
                  rintro e w7 ⟨rfl, hcu⟩
                  have HCU := Lib.hid hcu
                  clear hcu HDEL k0 k1 k2 k3
                  go_wp2_with fail
                  go_meet
                  exact HCU.out
                · as_aux_lemma =>
                  have HINS : Hid (∀ W, Quiet w6 W → ∀ bn, Rd W (fun k => k = bn) 4 (some ⟨bn, 0, none⟩) 1 (intRow (b : Int)) → Calls Tryz.prog 14 #[ptrV sb, .int .u64 1, .string ⟨#[116]⟩, .slice (some ⟨bn, 0, none⟩) 1 1] W (fun e w' => e = .returned (.int .i64 0) ∧ EntCut w0 sb ai ((some es) : Option (List Ent)).isSome w')) := fun W hq bn hr =>
                    (ent_insert (HLK.out.same hq) HES2.out (by omega) hb256 hr (by omega) (by unfold maxLen; omega)).mono (fun e w' h => ⟨(h.cut rfl).1, (h.cut rfl).2.1⟩)
                  go_wp2_with fail
                  refine (law_num (b : Int) _).mono ?_
                  rintro e w7 ⟨bn, rfl, hqn, _, _, hrn⟩
                  have HI2 := Lib.hid (HINS.out _ hqn bn hrn)
                  clear hqn hrn HINS
                  go_wp2_with fail
                  refine HI2.out.mono ?_
                  rintro e w8 ⟨rfl, hcu⟩
                  have HCU := Lib.hid hcu
                  clear hcu HI2
                  go_wp2_with fail
                  go_meet
                  exact HCU.out
            · by_cases z1 : bits BinOp.and IntKind.u8 (b : Int) 3 = 1
              · as_aux_lemma =>
                have HINS : Hid (∀ W, Quiet w6 W → ∀ bn, Rd W (fun k => k = bn) 4 (some ⟨bn, 0, none⟩) 1 (intRow (b : Int)) → Calls Tryz.prog 14 #[ptrV sb, .int .u64 1, .string ⟨#[116]⟩, .slice (some ⟨bn, 0, none⟩) 1 1] W (fun e w' => e = .returned (.int .i64 0) ∧ EntCut w0 sb ai ((some es) : Option (List Ent)).isSome w')) := fun W hq bn hr =>
                  (ent_insert (HLK.out.same hq) HES2.out (by omega) hb256 hr (by omega) (by unfold maxLen; omega)).mono (fun e w' h => ⟨(h.cut rfl).1, (h.cut rfl).2.1⟩)
                go_wp2_with fail
                refine (law_num (b : Int) _).mono ?_
                rintro e w7 ⟨bn, rfl, hqn, _, _, hrn⟩
                have HI2 := Lib.hid (HINS.out _ hqn bn hrn)
                clear hqn hrn HINS
                go_wp2_with fail
                refine HI2.out.mono ?_
                rintro e w8 ⟨rfl, hcu⟩
                have HCU := Lib.hid hcu
                clear hcu HI2
                go_wp2_with fail
                go_meet
                exact HCU.out
              · by_cases z2 : bits BinOp.and IntKind.u8 (b : Int) 3 = 2
                · as_aux_lemma =>
                  have HINS : Hid (∀ W, Quiet w6 W → ∀ bn, Rd W (fun k => k = bn) 4 (some ⟨bn, 0, none⟩) 1 (intRow (b : Int)) → Calls Tryz.prog 14 #[ptrV sb, .int .u64 1, .string ⟨#[116]⟩, .slice (some ⟨bn, 0, none⟩) 1 1] W (fun e w' => e = .returned (.int .i64 0) ∧ EntCut w0 sb ai ((some es) : Option (List Ent)).isSome w')) := fun W hq bn hr =>
                    (ent_insert (HLK.out.same hq) HES2.out (by omega) hb256 hr (by omega) (by unfold maxLen; omega)).mono (fun e w' h => ⟨(h.cut rfl).1, (h.cut rfl).2.1⟩)
                  go_wp2_with fail
                  refine (law_num (b : Int) _).mono ?_
                  rintro e w7 ⟨bn, rfl, hqn, _, _, hrn⟩
                  have HI2 := Lib.hid (HINS.out _ hqn bn hrn)
                  clear hqn hrn HINS
                  go_wp2_with fail
                  refine HI2.out.mono ?_
                  rintro e w8 ⟨rfl, hcu⟩
                  have HCU := Lib.hid hcu
                  clear hcu HI2
                  go_wp2_with fail
                  go_meet
                  exact HCU.out
                · as_aux_lemma =>
                  have HINS : Hid (∀ W, Quiet w6 W → ∀ bn, Rd W (fun k => k = bn) 4 (some ⟨bn, 0, none⟩) 1 (intRow (b : Int)) → Calls Tryz.prog 14 #[ptrV sb, .int .u64 1, .string ⟨#[116]⟩, .slice (some ⟨bn, 0, none⟩) 1 1] W (fun e w' => e = .returned (.int .i64 0) ∧ EntCut w0 sb ai ((some es) : Option (List Ent)).isSome w')) := fun W hq bn hr =>
                    (ent_insert (HLK.out.same hq) HES2.out (by omega) hb256 hr (by omega) (by unfold maxLen; omega)).mono (fun e w' h => ⟨(h.cut rfl).1, (h.cut rfl).2.1⟩)
                  go_wp2_with fail
                  refine (law_num (b : Int) _).mono ?_
                  rintro e w7 ⟨bn, rfl, hqn, _, _, hrn⟩
                  have HI2 := Lib.hid (HINS.out _ hqn bn hrn)
                  clear hqn hrn HINS
                  go_wp2_with fail
                  refine HI2.out.mono ?_
                  rintro e w8 ⟨rfl, hcu⟩
                  have HCU := Lib.hid hcu
                  clear hcu HI2
                  go_wp2_with fail
                  go_meet
                  exact HCU.out
          case rest =>
            obtain ⟨H2, left2, last2, c2, o2, hst, hes, ho2⟩ := hcut
            have HU := Lib.hid (ent_used hst hes)
            have HST3 := Lib.hid hst
            have HES3 := Lib.hid hes
            have HOI3 : Hid (o2.isSome = decide (ai < ai + 1)) := ho2.trans HOI2.out
            clear hst hes ho2
            go_wp2_with fail
            refine HU.out.mono ?_
            rintro e w9 ⟨vu, rfl, hu⟩
            obtain ⟨bu, cu, rfl, hbu⟩ := ints_one hu
            have HUW := Lib.hid hu.quiet
            have HE := Lib.hid (ent_entries (HST3.out.same HUW.out) HES3.out)
            have HBU := Lib.hid hbu
            clear HU hu hbu
            go_wp2_with fail
            refine HE.out.mono ?_
            rintro e w10 ⟨ve, rfl, he⟩
            have hbu := he.quiet.cell HBU.out (fun x => x)
            have HFIN : Hid (LawSt w0 w10 sb (fun _ => False) (stE H2 left2 last2 o2)) := (HST3.out.same HUW.out).same he.quiet
            have hwam : IntKind.i64.wrap (am : Int) = (am : Int) := wrap_i64_of _ (by omega) (by omega)
            have hat2 : (am : Int).tmod 31 = (ai : Int) := by rw [Int.tmod_eq_emod_of_nonneg (by omega)]; exact hai2
            clear HE
            cases o2 with
            | none =>
              have := HOI3.out
              simp at this
            | some es2 =>
              obtain ⟨be, ce, rfl, hbe⟩ := ints_one he
              clear he
              have HS24 : Hid (∀ W, Quiet w10 W → (fun w' => w'.cell? ⟨bu, 0, none⟩ = some (.int .i64 (c2 : Int)) ∧ w'.cell? ⟨be, 0, none⟩ = some (.int .i64 (c2 : Int))) W) := fun W hq => ⟨hq.cell hbu (fun x => x), hq.cell hbe (fun x => x)⟩
              clear hbe
              go_wp2_with fail
              refine wp_region_held_drew (S := (fun w' => w'.cell? ⟨bu, 0, none⟩ = some (.int .i64 (c2 : Int)) ∧ w'.cell? ⟨be, 0, none⟩ = some (.int .i64 (c2 : Int)))) (by kernel_rfl) (HS24.out _ ((Only.refl _ _).drew)) (fun hHeld => ?_)
              simp only [List.size_toArray, List.length_cons, List.length_nil, Nat.reduceAdd]
              have q0 : Quiet w10 w10.drew := (Only.refl _ _).drew
              generalize w10.drew = d0 at q0 hHeld ⊢
              (refine zTK 0 (oi := ?_) (v := ?_) ?_ ?_ (Or.inl ⟨?_, ?_⟩) ?_; rotate_left 2; (focus (simp only [zGA, zGZ, zGS] <;> rfl)); (focus (exact fun _ _ _ h => h)); (focus rfl); (focus (intro w hSw; (try dsimp only at hSw); go_simp; (try with_reducible rfl); done)); (try simp only [Act.put, zPA, zPZ, zPS]))
              (refine zTK 1 (oi := ?_) (v := ?_) ?_ ?_ (Or.inl ⟨?_, ?_⟩) ?_; rotate_left 2; (focus (simp only [zGA, zGZ, zGS] <;> rfl)); (focus (exact fun _ _ _ h => h)); (focus rfl); (focus (intro w hSw; (try dsimp only at hSw); go_simp; (try with_reducible rfl); done)); (try simp only [Act.put, zPA, zPZ, zPS]))
              (refine zTK 2 (oi := ?_) (v := ?_) ?_ ?_ (Or.inl ⟨?_, ?_⟩) ?_; rotate_left 2; (focus (simp only [zGA, zGZ, zGS] <;> rfl)); (focus (exact fun _ _ _ h => h)); (focus rfl); (focus (intro w hSw; (try dsimp only at hSw); go_simp; (try with_reducible rfl); done)); (try simp only [Act.put, zPA, zPZ, zPS]))
              (refine zTK 3 (oi := ?_) (v := ?_) ?_ ?_ (Or.inl ⟨?_, ?_⟩) ?_; rotate_left 2; (focus (simp only [zGA, zGZ, zGS] <;> rfl)); (focus (exact fun _ _ _ h => h)); (focus rfl); (focus (intro w hSw; (try dsimp only at hSw); go_simp; (try with_reducible rfl); done)); (try simp only [Act.put, zPA, zPZ, zPS]))
              (refine zTK 4 (oi := ?_) (v := ?_) ?_ ?_ (Or.inl ⟨?_, ?_⟩) ?_; rotate_left 2; (focus (simp only [zGA, zGZ, zGS] <;> rfl)); (focus (exact fun _ _ _ h => h)); (focus rfl); (focus (intro w hSw; (try dsimp only at hSw); go_simp; (try with_reducible rfl); done)); (try simp only [Act.put, zPA, zPZ, zPS]))
              (refine zTK 5 (oi := ?_) (v := ?_) ?_ ?_ (Or.inl ⟨?_, ?_⟩) ?_; rotate_left 2; (focus (simp only [zGA, zGZ, zGS] <;> rfl)); (focus (exact fun _ _ _ h => h)); (focus rfl); (focus (intro w hSw; (try dsimp only at hSw); go_simp; (try with_reducible rfl); done)); (try simp only [Act.put, zPA, zPZ, zPS]))
              (refine zTK 6 (oi := ?_) (v := ?_) ?_ ?_ (Or.inl ⟨?_, ?_⟩) ?_; rotate_left 2; (focus (simp only [zGA, zGZ, zGS] <;> rfl)); (focus (exact fun _ _ _ h => h)); (focus rfl); (focus (intro w hSw; (try dsimp only at hSw); go_simp; (try with_reducible rfl); done)); (try simp only [Act.put, zPA, zPZ, zPS]))
              (refine zTK 7 (oi := ?_) (v := ?_) ?_ ?_ (Or.inl ⟨?_, ?_⟩) ?_; rotate_left 2; (focus (simp only [zGA, zGZ, zGS] <;> rfl)); (focus (exact fun _ _ _ h => h)); (focus rfl); (focus (intro w hSw; (try dsimp only at hSw); go_simp; (try with_reducible rfl); done)); (try simp only [Act.put, zPA, zPZ, zPS]))
              (refine zTK 8 (oi := ?_) (v := ?_) ?_ ?_ (Or.inl ⟨?_, ?_⟩) ?_; rotate_left 2; (focus (simp only [zGA, zGZ, zGS] <;> rfl)); (focus (exact fun _ _ _ h => h)); (focus rfl); (focus (intro w hSw; (try dsimp only at hSw); go_simp; (try with_reducible rfl); done)); (try simp only [Act.put, zPA, zPZ, zPS]))
              (refine zTK 9 (oi := ?_) (v := ?_) ?_ ?_ (Or.inl ⟨?_, ?_⟩) ?_; rotate_left 2; (focus (simp only [zGA, zGZ, zGS] <;> rfl)); (focus (exact fun _ _ _ h => h)); (focus rfl); (focus (intro w hSw; (try dsimp only at hSw); go_simp; (try with_reducible rfl); done)); (try simp only [Act.put, zPA, zPZ, zPS]))
              (refine zTK 10 (oi := ?_) (v := ?_) ?_ ?_ (Or.inl ⟨?_, ?_⟩) ?_; rotate_left 2; (focus (simp only [zGA, zGZ, zGS] <;> rfl)); (focus (exact fun _ _ _ h => h)); (focus rfl); (focus (intro w hSw; (try dsimp only at hSw); go_simp; (try with_reducible rfl); done)); (try simp only [Act.put, zPA, zPZ, zPS]))
              (refine zTK 11 (oi := ?_) (v := ?_) ?_ ?_ (Or.inl ⟨?_, ?_⟩) ?_; rotate_left 2; (focus (simp only [zGA, zGZ, zGS] <;> rfl)); (focus (exact fun _ _ _ h => h)); (focus rfl); (focus (intro w hSw; (try dsimp only at hSw); go_simp; (try with_reducible rfl); done)); (try simp only [Act.put, zPA, zPZ, zPS]))
              (refine zTK 12 (oi := ?_) (v := ?_) ?_ ?_ (Or.inl ⟨?_, ?_⟩) ?_; rotate_left 2; (focus (simp only [zGA, zGZ, zGS] <;> rfl)); (focus (exact fun _ _ _ h => h)); (focus rfl); (focus (intro w hSw; (try dsimp only at hSw); go_simp; (try with_reducible rfl); done)); (try simp only [Act.put, zPA, zPZ, zPS]))
              (refine zTK 13 (oi := ?_) (v := ?_) ?_ ?_ (Or.inl ⟨?_, ?_⟩) ?_; rotate_left 2; (focus (simp only [zGA, zGZ, zGS] <;> rfl)); (focus (exact fun _ _ _ h => h)); (focus rfl); (focus (intro w hSw; (try dsimp only at hSw); go_simp; (try with_reducible rfl); done)); (try simp only [Act.put, zPA, zPZ, zPS]))
              (refine zTK 14 (oi := ?_) (v := ?_) ?_ ?_ (Or.inl ⟨?_, ?_⟩) ?_; rotate_left 2; (focus (simp only [zGA, zGZ, zGS] <;> rfl)); (focus (exact fun _ _ _ h => h)); (focus rfl); (focus (intro w hSw; (try dsimp only at hSw); go_simp; (try with_reducible rfl); done)); (try simp only [Act.put, zPA, zPZ, zPS]))
              (refine zTK 15 (oi := ?_) (v := ?_) ?_ ?_ (Or.inl ⟨?_, ?_⟩) ?_; rotate_left 2; (focus (simp only [zGA, zGZ, zGS] <;> rfl)); (focus (exact fun _ _ _ h => h)); (focus rfl); (focus (intro w hSw; (try dsimp only at hSw); go_simp; (try with_reducible rfl); done)); (try simp only [Act.put, zPA, zPZ, zPS]))
              (refine zTK 16 (oi := ?_) (v := ?_) ?_ ?_ (Or.inl ⟨?_, ?_⟩) ?_; rotate_left 2; (focus (simp only [zGA, zGZ, zGS] <;> rfl)); (focus (exact fun _ _ _ h => h)); (focus rfl); (focus (intro w hSw; (try dsimp only at hSw); go_simp; (try with_reducible rfl); done)); (try simp only [Act.put, zPA, zPZ, zPS]))
              (refine zTK 17 (oi := ?_) (v := ?_) ?_ ?_ (Or.inl ⟨?_, ?_⟩) ?_; rotate_left 2; (focus (simp only [zGA, zGZ, zGS] <;> rfl)); (focus (exact fun _ _ _ h => h)); (focus rfl); (focus (intro w hSw; (try dsimp only at hSw); go_simp; (try with_reducible rfl); done)); (try simp only [Act.put, zPA, zPZ, zPS]))
              (refine zTK 18 (oi := ?_) (v := ?_) ?_ ?_ (Or.inl ⟨?_, ?_⟩) ?_; rotate_left 2; (focus (simp only [zGA, zGZ, zGS] <;> rfl)); (focus (exact fun _ _ _ h => h)); (focus rfl); (focus (intro w hSw; (try dsimp only at hSw); go_simp; (try with_reducible rfl); done)); (try simp only [Act.put, zPA, zPZ, zPS]))
              (refine zTK 19 (oi := ?_) (v := ?_) ?_ ?_ (Or.inl ⟨?_, ?_⟩) ?_; rotate_left 2; (focus (simp only [zGA, zGZ, zGS] <;> rfl)); (focus (exact fun _ _ _ h => h)); (focus rfl); (focus (intro w hSw; (try dsimp only at hSw); go_simp; (try with_reducible rfl); done)); (try simp only [Act.put, zPA, zPZ, zPS]))
              (refine zTK 20 (oi := ?_) (v := ?_) ?_ ?_ (Or.inl ⟨?_, ?_⟩) ?_; rotate_left 2; (focus (simp only [zGA, zGZ, zGS] <;> rfl)); (focus (exact fun _ _ _ h => h)); (focus rfl); (focus (intro w hSw; (try dsimp only at hSw); go_simp; (try with_reducible rfl); done)); (try simp only [Act.put, zPA, zPZ, zPS]))
              (refine zTK 21 (oi := ?_) (v := ?_) ?_ ?_ (Or.inl ⟨?_, ?_⟩) ?_; rotate_left 2; (focus (simp only [zGA, zGZ, zGS] <;> rfl)); (focus (exact fun _ _ _ h => h)); (focus rfl); (focus (intro w hSw; (try dsimp only at hSw); go_simp; (try with_reducible rfl); done)); (try simp only [Act.put, zPA, zPZ, zPS]))
              (refine zTK 22 (oi := ?_) (v := undef) ?_ ?_ (Or.inr ⟨?_, rfl⟩) ?_; rotate_left 1; (focus (simp only [zGA, zGZ, zGS] <;> rfl)); (focus (exact fun _ _ _ h => h)); (focus rfl); (try simp only [Act.put, zPA, zPZ, zPS]))
              (refine zTK 23 (oi := ?_) (v := undef) ?_ ?_ (Or.inr ⟨?_, rfl⟩) ?_; rotate_left 1; (focus (simp only [zGA, zGZ, zGS] <;> rfl)); (focus (exact fun _ _ _ h => h)); (focus rfl); (try simp only [Act.put, zPA, zPZ, zPS]))
              (refine zTK 24 (oi := ?_) (v := undef) ?_ ?_ (Or.inr ⟨?_, rfl⟩) ?_; rotate_left 1; (focus (simp only [zGA, zGZ, zGS] <;> rfl)); (focus (exact fun _ _ _ h => h)); (focus rfl); (try simp only [Act.put, zPA, zPZ, zPS]))
              (refine zTK 25 (oi := ?_) (v := undef) ?_ ?_ (Or.inr ⟨?_, rfl⟩) ?_; rotate_left 1; (focus (simp only [zGA, zGZ, zGS] <;> rfl)); (focus (exact fun _ _ _ h => h)); (focus rfl); (try simp only [Act.put, zPA, zPZ, zPS]))
              (refine zTK 26 (oi := ?_) (v := undef) ?_ ?_ (Or.inr ⟨?_, rfl⟩) ?_; rotate_left 1; (focus (simp only [zGA, zGZ, zGS] <;> rfl)); (focus (exact fun _ _ _ h => h)); (focus rfl); (try simp only [Act.put, zPA, zPZ, zPS]))
              (refine zTK 27 (oi := ?_) (v := ?_) ?_ ?_ (Or.inl ⟨?_, ?_⟩) ?_; rotate_left 2; (focus (simp only [zGA, zGZ, zGS] <;> rfl)); (focus (exact fun _ _ _ h => h)); (focus rfl); (focus (intro w hSw; (try dsimp only at hSw); go_simp; (try with_reducible rfl); done)); (try simp only [Act.put, zPA, zPZ, zPS]))
              (refine zTK 28 (oi := ?_) (v := ?_) ?_ ?_ (Or.inl ⟨?_, ?_⟩) ?_; rotate_left 2; (focus (simp only [zGA, zGZ, zGS] <;> rfl)); (focus (exact fun _ _ _ h => h)); (focus rfl); (focus (intro w hSw; (try dsimp only at hSw); go_simp; (try with_reducible rfl); done)); (try simp only [Act.put, zPA, zPZ, zPS]))
              refine wpAnyH_done (by kernel_rfl) ?_ _
              have HLST := Lib.hid (HFIN.out.same q0)
              clear hHeld q0 HS24 hbu
              go_wp2
              go_roundw
              case rel => exact ⟨ai + 1, H2, left2, last2, c2, some es2, by omega, by omega, by go_num, HLST.out, HES3.out, HOI3.out⟩
              case measure => simp [intOf]; omega
        · have hne : ¬ (j : Int) = (ai : Int) := by omega
          have HST2 := HST
          have HES2 := HES
          have HOI2 : Hid (oi.isSome = decide (ai < j + 1)) := by
            have h1 := HOI.out
            have h2 : decide (ai < j) = decide (ai < j + 1) := decide_eq_decide.2 (by omega)
            show _ = _
            rw [h1, h2]
          go_wp2_with fail
          clear hcb hlb hne
          have HSC := Lib.hid (ent_scan HST2.out HES2.out (by omega))
          refine HSC.out.mono ?_
          rintro e w6 ⟨vl, M, rfl, hW, hperm, _⟩
          obtain ⟨Al, cl, rfl, hcl, hml, _⟩ := own_form hW.own
          have HLK : Hid (LawSt w0 w6 sb (fun k => (Value.slice Al M.length cl).ownBlock = some k) (stE H left last oi)) := (HST2.out.quietly hW.quiet).mono (fun k e => Or.inr ⟨hW.new k e, (hW.own.lt k e).2⟩)
          have HMP := Lib.hid hperm
          have HMO := Lib.hid hW.own
          obtain ⟨ml, hmm⟩ : ∃ ml, M.length = ml := ⟨_, rfl⟩
          rw [hmm] at HLK HMO hcl ⊢
          have HMM := Lib.hid hmm
          clear hmm
          unfold maxLen at hml
          clear hW hperm HSC
          go_upto_block 2 with (fail)
          go_cut [] (fun wx => EntCut w0 sb j (oi : Option (List Ent)).isSome wx)
          case first =>
            by_cases hm0 : 0 < ml
            · by_cases z1 : bits BinOp.and IntKind.u8 (b : Int) 3 = 1
              · as_aux_lemma =>
                obtain ⟨q, hqv⟩ : ∃ q, b / 4 % ml = q := ⟨_, rfl⟩
                have hql : q < ml := by rw [← hqv]; exact Nat.mod_lt _ hm0
                have hqi : (b : Int) / 4 % (ml : Int) = (q : Int) := by rw [← hqv]; simp
                have hqt : ((b : Int) / 4).tmod (ml : Int) = (q : Int) := by rw [Int.tmod_eq_emod_of_nonneg (by omega)]; exact hqi
                have hmz : ¬ ml = 0 := by omega
                have hwb : IntKind.i64.wrap (b : Int) = (b : Int) := wrap_i64_of _ (by omega) (by omega)
                obtain ⟨m, hmq⟩ : ∃ m, M[q]? = some m := ⟨_, List.getElem?_eq_getElem (by rw [HMM.out]; exact hql)⟩
                have hmr : m.told ∈ seenR H [1] (takeS [1] 1) (placesH H H.length) := HMP.out.mem_iff.1 (List.mem_map_of_mem (List.mem_of_getElem? hmq))
                obtain ⟨ba, ca, hba, hbl, k0, k1, k2, k3⟩ := rows_at HMM.out HMO.out hmq
                injection hba with e1 _ e2
                subst e1 e2
                have HUPD : Hid (∀ W, Quiet w6 W → ∀ bn, Rd W (fun k => k = bn) 4 (some ⟨bn, 0, none⟩) 1 (intRow (b : Int)) → Calls Tryz.prog 11 #[ptrV sb, .int .u64 1, .string ⟨#[116]⟩, .agg #[.int .u64 (m.id : Int), .int .i64 m.pg, .int .i64 m.sl, .slice m.A 1 m.c], .slice (some ⟨bn, 0, none⟩) 1 1] W (fun e w' => e = .returned (.int .i64 0) ∧ EntCut w0 sb j (oi : Option (List Ent)).isSome w' ∧ Only (fun k => w0.heap.size ≤ k ∧ ¬ (Value.slice (some ⟨ba, 0, none⟩) ml cl).ownBlock = some k) W w')) := fun W hq bn hr =>
                  (ent_update (r := m.told) (HLK.out.same hq) HES2.out (by omega) hmr hb256 hr (by omega) (by unfold maxLen; omega)).mono (fun e w' h => h.cut rfl)
                have HS18 : Hid (∀ W, Only (fun k => k ≠ ba) w6 W → (fun w' => w'.cell? ⟨ba, q * 4, none⟩ = some (.int .u64 (m.id : Int)) ∧ w'.cell? ⟨ba, q * 4 + 1, none⟩ = some (.int .i64 m.pg) ∧ w'.cell? ⟨ba, q * 4 + 2, none⟩ = some (.int .i64 m.sl) ∧ w'.cell? ⟨ba, q * 4 + 3, none⟩ = some (.slice m.A 1 m.c)) W) := fun W ho => ⟨ho.cell k0 (fun x => x rfl), ho.cell k1 (fun x => x rfl), ho.cell k2 (fun x => x rfl), ho.cell k3 (fun x => x rfl)⟩
                clear hqv hmq hmr k0 k1 k2 k3
                go_wp2_with fail
                refine wp_region_held_drew (S := (fun w' => w'.cell? ⟨ba, q * 4, none⟩ = some (.int .u64 (m.id : Int)) ∧ w'.cell? ⟨ba, q * 4 + 1, none⟩ = some (.int .i64 m.pg) ∧ w'.cell? ⟨ba, q * 4 + 2, none⟩ = some (.int .i64 m.sl) ∧ w'.cell? ⟨ba, q * 4 + 3, none⟩ = some (.slice m.A 1 m.c))) (by kernel_rfl) (HS18.out _ ((Only.refl _ _).drew)) (fun hHeld => ?_)
                simp only [List.size_toArray, List.length_cons, List.length_nil, Nat.reduceAdd]
                have q0 : Quiet w6 w6.drew := (Only.refl _ _).drew
                generalize w6.drew = d0 at q0 hHeld ⊢
                (refine zTK 0 (oi := ?_) (v := ?_) ?_ ?_ (Or.inl ⟨?_, ?_⟩) ?_; rotate_left 2; (focus (simp only [zGA, zGZ, zGS] <;> rfl)); (focus (exact fun _ _ _ h => h)); (focus rfl); (focus (intro w hSw; (try dsimp only at hSw); go_simp; (try with_reducible rfl); done)); (try simp only [Act.put, zPA, zPZ, zPS]))
                (refine zTK 1 (oi := ?_) (v := ?_) ?_ ?_ (Or.inl ⟨?_, ?_⟩) ?_; rotate_left 2; (focus (simp only [zGA, zGZ, zGS] <;> rfl)); (focus (exact fun _ _ _ h => h)); (focus rfl); (focus (intro w hSw; (try dsimp only at hSw); go_simp; (try with_reducible rfl); done)); (try simp only [Act.put, zPA, zPZ, zPS]))
                (refine zTK 2 (oi := ?_) (v := ?_) ?_ ?_ (Or.inl ⟨?_, ?_⟩) ?_; rotate_left 2; (focus (simp only [zGA, zGZ, zGS] <;> rfl)); (focus (exact fun _ _ _ h => h)); (focus rfl); (focus (intro w hSw; (try dsimp only at hSw); go_simp; (try with_reducible rfl); done)); (try simp only [Act.put, zPA, zPZ, zPS]))
                (refine zTK 3 (oi := ?_) (v := ?_) ?_ ?_ (Or.inl ⟨?_, ?_⟩) ?_; rotate_left 2; (focus (simp only [zGA, zGZ, zGS] <;> rfl)); (focus (exact fun _ _ _ h => h)); (focus rfl); (focus (intro w hSw; (try dsimp only at hSw); go_simp; (try with_reducible rfl); done)); (try simp only [Act.put, zPA, zPZ, zPS]))
                (refine zTK 4 (oi := ?_) (v := ?_) ?_ ?_ (Or.inl ⟨?_, ?_⟩) ?_; rotate_left 2; (focus (simp only [zGA, zGZ, zGS] <;> rfl)); (focus (exact fun _ _ _ h => h)); (focus rfl); (focus (intro w hSw; (try dsimp only at hSw); go_simp; (try with_reducible rfl); done)); (try simp only [Act.put, zPA, zPZ, zPS]))
                (refine zTK 5 (oi := ?_) (v := ?_) ?_ ?_ (Or.inl ⟨?_, ?_⟩) ?_; rotate_left 2; (focus (simp only [zGA, zGZ, zGS] <;> rfl)); (focus (exact fun _ _ _ h => h)); (focus rfl); (focus (intro w hSw; (try dsimp only at hSw); go_simp; (try with_reducible rfl); done)); (try simp only [Act.put, zPA, zPZ, zPS]))
                (refine zTK 6 (oi := ?_) (v := ?_) ?_ ?_ (Or.inl ⟨?_, ?_⟩) ?_; rotate_left 2; (focus (simp only [zGA, zGZ, zGS] <;> rfl)); (focus (exact fun _ _ _ h => h)); (focus rfl); (focus (intro w hSw; (try dsimp only at hSw); go_simp; (try with_reducible rfl); done)); (try simp only [Act.put, zPA, zPZ, zPS]))
                (refine zTK 7 (oi := ?_) (v := ?_) ?_ ?_ (Or.inl ⟨?_, ?_⟩) ?_; rotate_left 2; (focus (simp only [zGA, zGZ, zGS] <;> rfl)); (focus (exact fun _ _ _ h => h)); (focus rfl); (focus (intro w hSw; (try dsimp only at hSw); go_simp; (try with_reducible rfl); done)); (try simp only [Act.put, zPA, zPZ, zPS]))
                (refine zTK 8 (oi := ?_) (v := ?_) ?_ ?_ (Or.inl ⟨?_, ?_⟩) ?_; rotate_left 2; (focus (simp only [zGA, zGZ, zGS] <;> rfl)); (focus (exact fun _ _ _ h => h)); (focus rfl); (focus (intro w hSw; (try dsimp only at hSw); go_simp; (try with_reducible rfl); done)); (try simp only [Act.put, zPA, zPZ, zPS]))
                (refine zTK 9 (oi := ?_) (v := ?_) ?_ ?_ (Or.inl ⟨?_, ?_⟩) ?_; rotate_left 2; (focus (simp only [zGA, zGZ, zGS] <;> rfl)); (focus (exact fun _ _ _ h => h)); (focus rfl); (focus (intro w hSw; (try dsimp only at hSw); go_simp; (try with_reducible rfl); done)); (try simp only [Act.put, zPA, zPZ, zPS]))
                (refine zTK 10 (oi := ?_) (v := ?_) ?_ ?_ (Or.inl ⟨?_, ?_⟩) ?_; rotate_left 2; (focus (simp only [zGA, zGZ, zGS] <;> rfl)); (focus (exact fun _ _ _ h => h)); (focus rfl); (focus (intro w hSw; (try dsimp only at hSw); go_simp; (try with_reducible rfl); done)); (try simp only [Act.put, zPA, zPZ, zPS]))
                refine wpAnyH_ready (rs := [11]) (by kernel_rfl) (by simp) ?_
                refine AllReadyH.cons (o := ?_) ?_ ?_ AllReadyH.nil
                rotate_left 1
                (focus (simp only [zGA, zGZ, zGS] <;> rfl))
                intro K hK
                go_simp
                go_at_call 12
                refine (law_num (b : Int) _).mono ?_
                rintro e d1 ⟨bn, rfl, hqn, _, _, hrn⟩
                have q1 := q0.trans hqn
                clear hqn
                dsimp only
                refine hK.out _ _ ?_ (fun hHeld => ?_)
                · exact HS18.out _ (q1.mono (fun _ _ x => x.elim))
                clear hK K
                (try simp only [Act.put, zPA, zPZ, zPS])
                refine wpAnyH_ready (rs := [12]) (by kernel_rfl) (by simp) ?_
                refine AllReadyH.cons (o := ?_) ?_ ?_ AllReadyH.nil
                rotate_left 1
                (focus (simp only [zGA, zGZ, zGS] <;> rfl))
                intro K hK
                go_simp
                go_at_call 11
                refine (HUPD.out _ q1 bn hrn).mono ?_
                rintro e d2 ⟨rfl, hcu, ho2⟩
                have q2 := (q1.mono (T := fun k => k ≠ ba) (fun _ _ x => x.elim)).trans' ho2 (fun k _ x e => x.2 (by rw [e]; rfl))
                dsimp only
                refine hK.out _ _ ?_ (fun hHeld => ?_)
                · exact HS18.out _ q2
                clear hK K
                (try simp only [Act.put, zPA, zPZ, zPS])
                (refine zTK 13 (oi := ?_) (v := ?_) ?_ ?_ (Or.inl ⟨?_, ?_⟩) ?_; rotate_left 2; (focus (simp only [zGA, zGZ, zGS] <;> rfl)); (focus (exact fun _ _ _ h => h)); (focus rfl); (focus (intro w hSw; (try dsimp only at hSw); go_simp; (try with_reducible rfl); done)); (try simp only [Act.put, zPA, zPZ, zPS]))
                refine wpAnyH_done (by kernel_rfl) ?_ _
                have HCU := Lib.hid hcu
                clear hHeld q0 q1 q2 hcu ho2 hrn HS18 HUPD
                go_wp2_with fail
                go_meet
                exact HCU.out
              · by_cases z2 : bits BinOp.and IntKind.u8 (b : Int) 3 = 2
                · as_aux_lemma =>
                  obtain ⟨q, hqv⟩ : ∃ q, b / 4 % ml = q := ⟨_, rfl⟩
                  have hql : q < ml := by rw [← hqv]; exact Nat.mod_lt _ hm0
                  have hqi : (b : Int) / 4 % (ml : Int) = (q : Int) := by rw [← hqv]; simp
                  have hqt : ((b : Int) / 4).tmod (ml : Int) = (q : Int) := by rw [Int.tmod_eq_emod_of_nonneg (by omega)]; exact hqi
                  have hmz : ¬ ml = 0 := by omega
                  have hwb : IntKind.i64.wrap (b : Int) = (b : Int) := wrap_i64_of _ (by omega) (by omega)
                  obtain ⟨m, hmq⟩ : ∃ m, M[q]? = some m := ⟨_, List.getElem?_eq_getElem (by rw [HMM.out]; exact hql)⟩
                  have hmr : m.told ∈ seenR H [1] (takeS [1] 1) (placesH H H.length) := HMP.out.mem_iff.1 (List.mem_map_of_mem (List.mem_of_getElem? hmq))
                  obtain ⟨ba, ca, hba, hbl, k0, k1, k2, k3⟩ := rows_at HMM.out HMO.out hmq
                  injection hba with e1 _ e2
                  subst e1 e2
                  have HDEL : Hid (Calls Tryz.prog 13 #[ptrV sb, .int .u64 1, .string ⟨#[116]⟩, .agg #[.int .u64 (m.id : Int), .int .i64 m.pg, .int .i64 m.sl, .slice m.A 1 m.c]] w6 (fun e w' => e = .returned (.int .i64 0) ∧ EntCut w0 sb j (oi : Option (List Ent)).isSome w')) :=
                    (ent_delete (r := m.told) HLK.out HES2.out (by omega) hmr).mono (fun e w' h => ⟨(h.cut rfl).1, (h.cut rfl).2.1⟩)
                  clear hqv hmq hmr
                  go_wp2_with fail
                  refine HDEL.out.mono ?_
                  rintro e w7 ⟨rfl, hcu⟩
                  have HCU := Lib.hid hcu
                  clear hcu HDEL k0 k1 k2 k3
                  go_wp2_with fail
                  go_meet
                  exact HCU.out
                · as_aux_lemma =>
                  have HINS : Hid (∀ W, Quiet w6 W → ∀ bn, Rd W (fun k => k = bn) 4 (some ⟨bn, 0, none⟩) 1 (intRow (b : Int)) → Calls Tryz.prog 14 #[ptrV sb, .int .u64 1, .string ⟨#[116]⟩, .slice (some ⟨bn, 0, none⟩) 1 1] W (fun e w' => e = .returned (.int .i64 0) ∧ EntCut w0 sb j (oi : Option (List Ent)).isSome w')) := fun W hq bn hr =>
                    (ent_insert (HLK.out.same hq) HES2.out (by omega) hb256 hr (by omega) (by unfold maxLen; omega)).mono (fun e w' h => ⟨(h.cut rfl).1, (h.cut rfl).2.1⟩)
                  go_wp2_with fail
                  refine (law_num (b : Int) _).mono ?_
                  rintro e w7 ⟨bn, rfl, hqn, _, _, hrn⟩
                  have HI2 := Lib.hid (HINS.out _ hqn bn hrn)
                  clear hqn hrn HINS
                  go_wp2_with fail
                  refine HI2.out.mono ?_
                  rintro e w8 ⟨rfl, hcu⟩
                  have HCU := Lib.hid hcu
                  clear hcu HI2
                  go_wp2_with fail
                  go_meet
                  exact HCU.out
            · by_cases z1 : bits BinOp.and IntKind.u8 (b : Int) 3 = 1
              · as_aux_lemma =>
                have HINS : Hid (∀ W, Quiet w6 W → ∀ bn, Rd W (fun k => k = bn) 4 (some ⟨bn, 0, none⟩) 1 (intRow (b : Int)) → Calls Tryz.prog 14 #[ptrV sb, .int .u64 1, .string ⟨#[116]⟩, .slice (some ⟨bn, 0, none⟩) 1 1] W (fun e w' => e = .returned (.int .i64 0) ∧ EntCut w0 sb j (oi : Option (List Ent)).isSome w')) := fun W hq bn hr =>
                  (ent_insert (HLK.out.same hq) HES2.out (by omega) hb256 hr (by omega) (by unfold maxLen; omega)).mono (fun e w' h => ⟨(h.cut rfl).1, (h.cut rfl).2.1⟩)
                go_wp2_with fail
                refine (law_num (b : Int) _).mono ?_
                rintro e w7 ⟨bn, rfl, hqn, _, _, hrn⟩
                have HI2 := Lib.hid (HINS.out _ hqn bn hrn)
                clear hqn hrn HINS
                go_wp2_with fail
                refine HI2.out.mono ?_
                rintro e w8 ⟨rfl, hcu⟩
                have HCU := Lib.hid hcu
                clear hcu HI2
                go_wp2_with fail
                go_meet
                exact HCU.out
              · by_cases z2 : bits BinOp.and IntKind.u8 (b : Int) 3 = 2
                · as_aux_lemma =>
                  have HINS : Hid (∀ W, Quiet w6 W → ∀ bn, Rd W (fun k => k = bn) 4 (some ⟨bn, 0, none⟩) 1 (intRow (b : Int)) → Calls Tryz.prog 14 #[ptrV sb, .int .u64 1, .string ⟨#[116]⟩, .slice (some ⟨bn, 0, none⟩) 1 1] W (fun e w' => e = .returned (.int .i64 0) ∧ EntCut w0 sb j (oi : Option (List Ent)).isSome w')) := fun W hq bn hr =>
                    (ent_insert (HLK.out.same hq) HES2.out (by omega) hb256 hr (by omega) (by unfold maxLen; omega)).mono (fun e w' h => ⟨(h.cut rfl).1, (h.cut rfl).2.1⟩)
                  go_wp2_with fail
                  refine (law_num (b : Int) _).mono ?_
                  rintro e w7 ⟨bn, rfl, hqn, _, _, hrn⟩
                  have HI2 := Lib.hid (HINS.out _ hqn bn hrn)
                  clear hqn hrn HINS
                  go_wp2_with fail
                  refine HI2.out.mono ?_
                  rintro e w8 ⟨rfl, hcu⟩
                  have HCU := Lib.hid hcu
                  clear hcu HI2
                  go_wp2_with fail
                  go_meet
                  exact HCU.out
                · as_aux_lemma =>
                  have HINS : Hid (∀ W, Quiet w6 W → ∀ bn, Rd W (fun k => k = bn) 4 (some ⟨bn, 0, none⟩) 1 (intRow (b : Int)) → Calls Tryz.prog 14 #[ptrV sb, .int .u64 1, .string ⟨#[116]⟩, .slice (some ⟨bn, 0, none⟩) 1 1] W (fun e w' => e = .returned (.int .i64 0) ∧ EntCut w0 sb j (oi : Option (List Ent)).isSome w')) := fun W hq bn hr =>
                    (ent_insert (HLK.out.same hq) HES2.out (by omega) hb256 hr (by omega) (by unfold maxLen; omega)).mono (fun e w' h => ⟨(h.cut rfl).1, (h.cut rfl).2.1⟩)
                  go_wp2_with fail
                  refine (law_num (b : Int) _).mono ?_
                  rintro e w7 ⟨bn, rfl, hqn, _, _, hrn⟩
                  have HI2 := Lib.hid (HINS.out _ hqn bn hrn)
                  clear hqn hrn HINS
                  go_wp2_with fail
                  refine HI2.out.mono ?_
                  rintro e w8 ⟨rfl, hcu⟩
                  have HCU := Lib.hid hcu
                  clear hcu HI2
                  go_wp2_with fail
                  go_meet
                  exact HCU.out
          case rest =>
            obtain ⟨H2, left2, last2, c2, o2, hst, hes, ho2⟩ := hcut
            have HU := Lib.hid (ent_used hst hes)
            have HST3 := Lib.hid hst
            have HES3 := Lib.hid hes
            have HOI3 : Hid (o2.isSome = decide (ai < j + 1)) := ho2.trans HOI2.out
            clear hst hes ho2
            go_wp2_with fail
            refine HU.out.mono ?_
            rintro e w9 ⟨vu, rfl, hu⟩
            obtain ⟨bu, cu, rfl, hbu⟩ := ints_one hu
            have HUW := Lib.hid hu.quiet
            have HE := Lib.hid (ent_entries (HST3.out.same HUW.out) HES3.out)
            have HBU := Lib.hid hbu
            clear HU hu hbu
            go_wp2_with fail
            refine HE.out.mono ?_
            rintro e w10 ⟨ve, rfl, he⟩
            have hbu := he.quiet.cell HBU.out (fun x => x)
            have HFIN : Hid (LawSt w0 w10 sb (fun _ => False) (stE H2 left2 last2 o2)) := (HST3.out.same HUW.out).same he.quiet
            have hwam : IntKind.i64.wrap (am : Int) = (am : Int) := wrap_i64_of _ (by omega) (by omega)
            have hat2 : (am : Int).tmod 31 = (ai : Int) := by rw [Int.tmod_eq_emod_of_nonneg (by omega)]; exact hai2
            clear HE
            cases o2 with
            | none =>
              have hlj : ¬ ai < j + 1 := fun h => by have := HOI3.out; simp [h] at this
              have hja : ¬ (ai : Int) ≤ (j : Int) := by omega
              obtain ⟨Ae, ce, rfl⟩ := ints_nil he
              clear he
              have HS24 : Hid (∀ W, Quiet w10 W → (fun w' => w'.cell? ⟨bu, 0, none⟩ = some (.int .i64 (c2 : Int))) W) := fun W hq => hq.cell hbu (fun x => x)
              go_wp2_with fail
              refine wp_region_held_drew (S := (fun w' => w'.cell? ⟨bu, 0, none⟩ = some (.int .i64 (c2 : Int)))) (by kernel_rfl) (HS24.out _ ((Only.refl _ _).drew)) (fun hHeld => ?_)
              simp only [List.size_toArray, List.length_cons, List.length_nil, Nat.reduceAdd]
              have q0 : Quiet w10 w10.drew := (Only.refl _ _).drew
              generalize w10.drew = d0 at q0 hHeld ⊢
              (refine zTK 0 (oi := ?_) (v := ?_) ?_ ?_ (Or.inl ⟨?_, ?_⟩) ?_; rotate_left 2; (focus (simp only [zGA, zGZ, zGS] <;> rfl)); (focus (exact fun _ _ _ h => h)); (focus rfl); (focus (intro w hSw; (try dsimp only at hSw); go_simp; (try with_reducible rfl); done)); (try simp only [Act.put, zPA, zPZ, zPS]))
              (refine zTK 1 (oi := ?_) (v := ?_) ?_ ?_ (Or.inl ⟨?_, ?_⟩) ?_; rotate_left 2; (focus (simp only [zGA, zGZ, zGS] <;> rfl)); (focus (exact fun _ _ _ h => h)); (focus rfl); (focus (intro w hSw; (try dsimp only at hSw); go_simp; (try with_reducible rfl); done)); (try simp only [Act.put, zPA, zPZ, zPS]))
              (refine zTK 2 (oi := ?_) (v := ?_) ?_ ?_ (Or.inl ⟨?_, ?_⟩) ?_; rotate_left 2; (focus (simp only [zGA, zGZ, zGS] <;> rfl)); (focus (exact fun _ _ _ h => h)); (focus rfl); (focus (intro w hSw; (try dsimp only at hSw); go_simp; (try with_reducible rfl); done)); (try simp only [Act.put, zPA, zPZ, zPS]))
              (refine zTK 3 (oi := ?_) (v := ?_) ?_ ?_ (Or.inl ⟨?_, ?_⟩) ?_; rotate_left 2; (focus (simp only [zGA, zGZ, zGS] <;> rfl)); (focus (exact fun _ _ _ h => h)); (focus rfl); (focus (intro w hSw; (try dsimp only at hSw); go_simp; (try with_reducible rfl); done)); (try simp only [Act.put, zPA, zPZ, zPS]))
              (refine zTK 4 (oi := ?_) (v := ?_) ?_ ?_ (Or.inl ⟨?_, ?_⟩) ?_; rotate_left 2; (focus (simp only [zGA, zGZ, zGS] <;> rfl)); (focus (exact fun _ _ _ h => h)); (focus rfl); (focus (intro w hSw; (try dsimp only at hSw); go_simp; (try with_reducible rfl); done)); (try simp only [Act.put, zPA, zPZ, zPS]))
              (refine zTK 5 (oi := ?_) (v := ?_) ?_ ?_ (Or.inl ⟨?_, ?_⟩) ?_; rotate_left 2; (focus (simp only [zGA, zGZ, zGS] <;> rfl)); (focus (exact fun _ _ _ h => h)); (focus rfl); (focus (intro w hSw; (try dsimp only at hSw); go_simp; (try with_reducible rfl); done)); (try simp only [Act.put, zPA, zPZ, zPS]))
              (refine zTK 6 (oi := ?_) (v := ?_) ?_ ?_ (Or.inl ⟨?_, ?_⟩) ?_; rotate_left 2; (focus (simp only [zGA, zGZ, zGS] <;> rfl)); (focus (exact fun _ _ _ h => h)); (focus rfl); (focus (intro w hSw; (try dsimp only at hSw); go_simp; (try with_reducible rfl); done)); (try simp only [Act.put, zPA, zPZ, zPS]))
              (refine zTK 7 (oi := ?_) (v := ?_) ?_ ?_ (Or.inl ⟨?_, ?_⟩) ?_; rotate_left 2; (focus (simp only [zGA, zGZ, zGS] <;> rfl)); (focus (exact fun _ _ _ h => h)); (focus rfl); (focus (intro w hSw; (try dsimp only at hSw); go_simp; (try with_reducible rfl); done)); (try simp only [Act.put, zPA, zPZ, zPS]))
              (refine zTK 8 (oi := ?_) (v := undef) ?_ ?_ (Or.inr ⟨?_, rfl⟩) ?_; rotate_left 1; (focus (simp only [zGA, zGZ, zGS] <;> rfl)); (focus (exact fun _ _ _ h => h)); (focus rfl); (try simp only [Act.put, zPA, zPZ, zPS]))
              (refine zTK 9 (oi := ?_) (v := undef) ?_ ?_ (Or.inr ⟨?_, rfl⟩) ?_; rotate_left 1; (focus (simp only [zGA, zGZ, zGS] <;> rfl)); (focus (exact fun _ _ _ h => h)); (focus rfl); (try simp only [Act.put, zPA, zPZ, zPS]))
              (refine zTK 10 (oi := ?_) (v := undef) ?_ ?_ (Or.inr ⟨?_, rfl⟩) ?_; rotate_left 1; (focus (simp only [zGA, zGZ, zGS] <;> rfl)); (focus (exact fun _ _ _ h => h)); (focus rfl); (try simp only [Act.put, zPA, zPZ, zPS]))
              (refine zTK 11 (oi := ?_) (v := undef) ?_ ?_ (Or.inr ⟨?_, rfl⟩) ?_; rotate_left 1; (focus (simp only [zGA, zGZ, zGS] <;> rfl)); (focus (exact fun _ _ _ h => h)); (focus rfl); (try simp only [Act.put, zPA, zPZ, zPS]))
              (refine zTK 12 (oi := ?_) (v := undef) ?_ ?_ (Or.inr ⟨?_, rfl⟩) ?_; rotate_left 1; (focus (simp only [zGA, zGZ, zGS] <;> rfl)); (focus (exact fun _ _ _ h => h)); (focus rfl); (try simp only [Act.put, zPA, zPZ, zPS]))
              (refine zTK 13 (oi := ?_) (v := undef) ?_ ?_ (Or.inr ⟨?_, rfl⟩) ?_; rotate_left 1; (focus (simp only [zGA, zGZ, zGS] <;> rfl)); (focus (exact fun _ _ _ h => h)); (focus rfl); (try simp only [Act.put, zPA, zPZ, zPS]))
              (refine zTK 14 (oi := ?_) (v := undef) ?_ ?_ (Or.inr ⟨?_, rfl⟩) ?_; rotate_left 1; (focus (simp only [zGA, zGZ, zGS] <;> rfl)); (focus (exact fun _ _ _ h => h)); (focus rfl); (try simp only [Act.put, zPA, zPZ, zPS]))
              (refine zTK 15 (oi := ?_) (v := ?_) ?_ ?_ (Or.inl ⟨?_, ?_⟩) ?_; rotate_left 2; (focus (simp only [zGA, zGZ, zGS] <;> rfl)); (focus (exact fun _ _ _ h => h)); (focus rfl); (focus (intro w hSw; (try dsimp only at hSw); go_simp; (try with_reducible rfl); done)); (try simp only [Act.put, zPA, zPZ, zPS]))
              (refine zTK 16 (oi := ?_) (v := ?_) ?_ ?_ (Or.inl ⟨?_, ?_⟩) ?_; rotate_left 2; (focus (simp only [zGA, zGZ, zGS] <;> rfl)); (focus (exact fun _ _ _ h => h)); (focus rfl); (focus (intro w hSw; (try dsimp only at hSw); go_simp; (try with_reducible rfl); done)); (try simp only [Act.put, zPA, zPZ, zPS]))
              (refine zTK 17 (oi := ?_) (v := ?_) ?_ ?_ (Or.inl ⟨?_, ?_⟩) ?_; rotate_left 2; (focus (simp only [zGA, zGZ, zGS] <;> rfl)); (focus (exact fun _ _ _ h => h)); (focus rfl); (focus (intro w hSw; (try dsimp only at hSw); go_simp; (try with_reducible rfl); done)); (try simp only [Act.put, zPA, zPZ, zPS]))
              (refine zTK 18 (oi := ?_) (v := ?_) ?_ ?_ (Or.inl ⟨?_, ?_⟩) ?_; rotate_left 2; (focus (simp only [zGA, zGZ, zGS] <;> rfl)); (focus (exact fun _ _ _ h => h)); (focus rfl); (focus (intro w hSw; (try dsimp only at hSw); go_simp; (try with_reducible rfl); done)); (try simp only [Act.put, zPA, zPZ, zPS]))
              (refine zTK 19 (oi := ?_) (v := ?_) ?_ ?_ (Or.inl ⟨?_, ?_⟩) ?_; rotate_left 2; (focus (simp only [zGA, zGZ, zGS] <;> rfl)); (focus (exact fun _ _ _ h => h)); (focus rfl); (focus (intro w hSw; (try dsimp only at hSw); go_simp; (try with_reducible rfl); done)); (try simp only [Act.put, zPA, zPZ, zPS]))
              (refine zTK 20 (oi := ?_) (v := ?_) ?_ ?_ (Or.inl ⟨?_, ?_⟩) ?_; rotate_left 2; (focus (simp only [zGA, zGZ, zGS] <;> rfl)); (focus (exact fun _ _ _ h => h)); (focus rfl); (focus (intro w hSw; (try dsimp only at hSw); go_simp; (try with_reducible rfl); done)); (try simp only [Act.put, zPA, zPZ, zPS]))
              (refine zTK 21 (oi := ?_) (v := ?_) ?_ ?_ (Or.inl ⟨?_, ?_⟩) ?_; rotate_left 2; (focus (simp only [zGA, zGZ, zGS] <;> rfl)); (focus (exact fun _ _ _ h => h)); (focus rfl); (focus (intro w hSw; (try dsimp only at hSw); go_simp; (try with_reducible rfl); done)); (try simp only [Act.put, zPA, zPZ, zPS]))
              (refine zTK 22 (oi := ?_) (v := ?_) ?_ ?_ (Or.inl ⟨?_, ?_⟩) ?_; rotate_left 2; (focus (simp only [zGA, zGZ, zGS] <;> rfl)); (focus (exact fun _ _ _ h => h)); (focus rfl); (focus (intro w hSw; (try dsimp only at hSw); go_simp; (try with_reducible rfl); done)); (try simp only [Act.put, zPA, zPZ, zPS]))
              (refine zTK 23 (oi := ?_) (v := ?_) ?_ ?_ (Or.inl ⟨?_, ?_⟩) ?_; rotate_left 2; (focus (simp only [zGA, zGZ, zGS] <;> rfl)); (focus (exact fun _ _ _ h => h)); (focus rfl); (focus (intro w hSw; (try dsimp only at hSw); go_simp; (try with_reducible rfl); done)); (try simp only [Act.put, zPA, zPZ, zPS]))
              (refine zTK 24 (oi := ?_) (v := ?_) ?_ ?_ (Or.inl ⟨?_, ?_⟩) ?_; rotate_left 2; (focus (simp only [zGA, zGZ, zGS] <;> rfl)); (focus (exact fun _ _ _ h => h)); (focus rfl); (focus (intro w hSw; (try dsimp only at hSw); go_simp; (try with_reducible rfl); done)); (try simp only [Act.put, zPA, zPZ, zPS]))
              (refine zTK 25 (oi := ?_) (v := ?_) ?_ ?_ (Or.inl ⟨?_, ?_⟩) ?_; rotate_left 2; (focus (simp only [zGA, zGZ, zGS] <;> rfl)); (focus (exact fun _ _ _ h => h)); (focus rfl); (focus (intro w hSw; (try dsimp only at hSw); go_simp; (try with_reducible rfl); done)); (try simp only [Act.put, zPA, zPZ, zPS]))
              (refine zTK 26 (oi := ?_) (v := ?_) ?_ ?_ (Or.inl ⟨?_, ?_⟩) ?_; rotate_left 2; (focus (simp only [zGA, zGZ, zGS] <;> rfl)); (focus (exact fun _ _ _ h => h)); (focus rfl); (focus (intro w hSw; (try dsimp only at hSw); go_simp; (try with_reducible rfl); done)); (try simp only [Act.put, zPA, zPZ, zPS]))
              (refine zTK 27 (oi := ?_) (v := ?_) ?_ ?_ (Or.inl ⟨?_, ?_⟩) ?_; rotate_left 2; (focus (simp only [zGA, zGZ, zGS] <;> rfl)); (focus (exact fun _ _ _ h => h)); (focus rfl); (focus (intro w hSw; (try dsimp only at hSw); go_simp; (try with_reducible rfl); done)); (try simp only [Act.put, zPA, zPZ, zPS]))
              (refine zTK 28 (oi := ?_) (v := ?_) ?_ ?_ (Or.inl ⟨?_, ?_⟩) ?_; rotate_left 2; (focus (simp only [zGA, zGZ, zGS] <;> rfl)); (focus (exact fun _ _ _ h => h)); (focus rfl); (focus (intro w hSw; (try dsimp only at hSw); go_simp; (try with_reducible rfl); done)); (try simp only [Act.put, zPA, zPZ, zPS]))
              refine wpAnyH_done (by kernel_rfl) ?_ _
              have HLST := Lib.hid (HFIN.out.same q0)
              clear hHeld q0 HS24 hbu
              go_wp2
              go_roundw
              case rel => exact ⟨j + 1, H2, left2, last2, c2, none, by omega, by omega, by go_num, HLST.out, HES3.out, HOI3.out⟩
              case measure => simp [intOf]; omega
            | some es2 =>
              obtain ⟨be, ce, rfl, hbe⟩ := ints_one he
              clear he
              have HS24 : Hid (∀ W, Quiet w10 W → (fun w' => w'.cell? ⟨bu, 0, none⟩ = some (.int .i64 (c2 : Int)) ∧ w'.cell? ⟨be, 0, none⟩ = some (.int .i64 (c2 : Int))) W) := fun W hq => ⟨hq.cell hbu (fun x => x), hq.cell hbe (fun x => x)⟩
              clear hbe
              go_wp2_with fail
              refine wp_region_held_drew (S := (fun w' => w'.cell? ⟨bu, 0, none⟩ = some (.int .i64 (c2 : Int)) ∧ w'.cell? ⟨be, 0, none⟩ = some (.int .i64 (c2 : Int)))) (by kernel_rfl) (HS24.out _ ((Only.refl _ _).drew)) (fun hHeld => ?_)
              simp only [List.size_toArray, List.length_cons, List.length_nil, Nat.reduceAdd]
              have q0 : Quiet w10 w10.drew := (Only.refl _ _).drew
              generalize w10.drew = d0 at q0 hHeld ⊢
              (refine zTK 0 (oi := ?_) (v := ?_) ?_ ?_ (Or.inl ⟨?_, ?_⟩) ?_; rotate_left 2; (focus (simp only [zGA, zGZ, zGS] <;> rfl)); (focus (exact fun _ _ _ h => h)); (focus rfl); (focus (intro w hSw; (try dsimp only at hSw); go_simp; (try with_reducible rfl); done)); (try simp only [Act.put, zPA, zPZ, zPS]))
              (refine zTK 1 (oi := ?_) (v := ?_) ?_ ?_ (Or.inl ⟨?_, ?_⟩) ?_; rotate_left 2; (focus (simp only [zGA, zGZ, zGS] <;> rfl)); (focus (exact fun _ _ _ h => h)); (focus rfl); (focus (intro w hSw; (try dsimp only at hSw); go_simp; (try with_reducible rfl); done)); (try simp only [Act.put, zPA, zPZ, zPS]))
              (refine zTK 2 (oi := ?_) (v := ?_) ?_ ?_ (Or.inl ⟨?_, ?_⟩) ?_; rotate_left 2; (focus (simp only [zGA, zGZ, zGS] <;> rfl)); (focus (exact fun _ _ _ h => h)); (focus rfl); (focus (intro w hSw; (try dsimp only at hSw); go_simp; (try with_reducible rfl); done)); (try simp only [Act.put, zPA, zPZ, zPS]))
              (refine zTK 3 (oi := ?_) (v := ?_) ?_ ?_ (Or.inl ⟨?_, ?_⟩) ?_; rotate_left 2; (focus (simp only [zGA, zGZ, zGS] <;> rfl)); (focus (exact fun _ _ _ h => h)); (focus rfl); (focus (intro w hSw; (try dsimp only at hSw); go_simp; (try with_reducible rfl); done)); (try simp only [Act.put, zPA, zPZ, zPS]))
              (refine zTK 4 (oi := ?_) (v := ?_) ?_ ?_ (Or.inl ⟨?_, ?_⟩) ?_; rotate_left 2; (focus (simp only [zGA, zGZ, zGS] <;> rfl)); (focus (exact fun _ _ _ h => h)); (focus rfl); (focus (intro w hSw; (try dsimp only at hSw); go_simp; (try with_reducible rfl); done)); (try simp only [Act.put, zPA, zPZ, zPS]))
              (refine zTK 5 (oi := ?_) (v := ?_) ?_ ?_ (Or.inl ⟨?_, ?_⟩) ?_; rotate_left 2; (focus (simp only [zGA, zGZ, zGS] <;> rfl)); (focus (exact fun _ _ _ h => h)); (focus rfl); (focus (intro w hSw; (try dsimp only at hSw); go_simp; (try with_reducible rfl); done)); (try simp only [Act.put, zPA, zPZ, zPS]))
              (refine zTK 6 (oi := ?_) (v := ?_) ?_ ?_ (Or.inl ⟨?_, ?_⟩) ?_; rotate_left 2; (focus (simp only [zGA, zGZ, zGS] <;> rfl)); (focus (exact fun _ _ _ h => h)); (focus rfl); (focus (intro w hSw; (try dsimp only at hSw); go_simp; (try with_reducible rfl); done)); (try simp only [Act.put, zPA, zPZ, zPS]))
              (refine zTK 7 (oi := ?_) (v := ?_) ?_ ?_ (Or.inl ⟨?_, ?_⟩) ?_; rotate_left 2; (focus (simp only [zGA, zGZ, zGS] <;> rfl)); (focus (exact fun _ _ _ h => h)); (focus rfl); (focus (intro w hSw; (try dsimp only at hSw); go_simp; (try with_reducible rfl); done)); (try simp only [Act.put, zPA, zPZ, zPS]))
              (refine zTK 8 (oi := ?_) (v := ?_) ?_ ?_ (Or.inl ⟨?_, ?_⟩) ?_; rotate_left 2; (focus (simp only [zGA, zGZ, zGS] <;> rfl)); (focus (exact fun _ _ _ h => h)); (focus rfl); (focus (intro w hSw; (try dsimp only at hSw); go_simp; (try with_reducible rfl); done)); (try simp only [Act.put, zPA, zPZ, zPS]))
              (refine zTK 9 (oi := ?_) (v := ?_) ?_ ?_ (Or.inl ⟨?_, ?_⟩) ?_; rotate_left 2; (focus (simp only [zGA, zGZ, zGS] <;> rfl)); (focus (exact fun _ _ _ h => h)); (focus rfl); (focus (intro w hSw; (try dsimp only at hSw); go_simp; (try with_reducible rfl); done)); (try simp only [Act.put, zPA, zPZ, zPS]))
              (refine zTK 10 (oi := ?_) (v := ?_) ?_ ?_ (Or.inl ⟨?_, ?_⟩) ?_; rotate_left 2; (focus (simp only [zGA, zGZ, zGS] <;> rfl)); (focus (exact fun _ _ _ h => h)); (focus rfl); (focus (intro w hSw; (try dsimp only at hSw); go_simp; (try with_reducible rfl); done)); (try simp only [Act.put, zPA, zPZ, zPS]))
              (refine zTK 11 (oi := ?_) (v := ?_) ?_ ?_ (Or.inl ⟨?_, ?_⟩) ?_; rotate_left 2; (focus (simp only [zGA, zGZ, zGS] <;> rfl)); (focus (exact fun _ _ _ h => h)); (focus rfl); (focus (intro w hSw; (try dsimp only at hSw); go_simp; (try with_reducible rfl); done)); (try simp only [Act.put, zPA, zPZ, zPS]))
              (refine zTK 12 (oi := ?_) (v := ?_) ?_ ?_ (Or.inl ⟨?_, ?_⟩) ?_; rotate_left 2; (focus (simp only [zGA, zGZ, zGS] <;> rfl)); (focus (exact fun _ _ _ h => h)); (focus rfl); (focus (intro w hSw; (try dsimp only at hSw); go_simp; (try with_reducible rfl); done)); (try simp only [Act.put, zPA, zPZ, zPS]))
              (refine zTK 13 (oi := ?_) (v := ?_) ?_ ?_ (Or.inl ⟨?_, ?_⟩) ?_; rotate_left 2; (focus (simp only [zGA, zGZ, zGS] <;> rfl)); (focus (exact fun _ _ _ h => h)); (focus rfl); (focus (intro w hSw; (try dsimp only at hSw); go_simp; (try with_reducible rfl); done)); (try simp only [Act.put, zPA, zPZ, zPS]))
              (refine zTK 14 (oi := ?_) (v := ?_) ?_ ?_ (Or.inl ⟨?_, ?_⟩) ?_; rotate_left 2; (focus (simp only [zGA, zGZ, zGS] <;> rfl)); (focus (exact fun _ _ _ h => h)); (focus rfl); (focus (intro w hSw; (try dsimp only at hSw); go_simp; (try with_reducible rfl); done)); (try simp only [Act.put, zPA, zPZ, zPS]))
              (refine zTK 15 (oi := ?_) (v := ?_) ?_ ?_ (Or.inl ⟨?_, ?_⟩) ?_; rotate_left 2; (focus (simp only [zGA, zGZ, zGS] <;> rfl)); (focus (exact fun _ _ _ h => h)); (focus rfl); (focus (intro w hSw; (try dsimp only at hSw); go_simp; (try with_reducible rfl); done)); (try simp only [Act.put, zPA, zPZ, zPS]))
              (refine zTK 16 (oi := ?_) (v := ?_) ?_ ?_ (Or.inl ⟨?_, ?_⟩) ?_; rotate_left 2; (focus (simp only [zGA, zGZ, zGS] <;> rfl)); (focus (exact fun _ _ _ h => h)); (focus rfl); (focus (intro w hSw; (try dsimp only at hSw); go_simp; (try with_reducible rfl); done)); (try simp only [Act.put, zPA, zPZ, zPS]))
              (refine zTK 17 (oi := ?_) (v := ?_) ?_ ?_ (Or.inl ⟨?_, ?_⟩) ?_; rotate_left 2; (focus (simp only [zGA, zGZ, zGS] <;> rfl)); (focus (exact fun _ _ _ h => h)); (focus rfl); (focus (intro w hSw; (try dsimp only at hSw); go_simp; (try with_reducible rfl); done)); (try simp only [Act.put, zPA, zPZ, zPS]))
              (refine zTK 18 (oi := ?_) (v := ?_) ?_ ?_ (Or.inl ⟨?_, ?_⟩) ?_; rotate_left 2; (focus (simp only [zGA, zGZ, zGS] <;> rfl)); (focus (exact fun _ _ _ h => h)); (focus rfl); (focus (intro w hSw; (try dsimp only at hSw); go_simp; (try with_reducible rfl); done)); (try simp only [Act.put, zPA, zPZ, zPS]))
              (refine zTK 19 (oi := ?_) (v := ?_) ?_ ?_ (Or.inl ⟨?_, ?_⟩) ?_; rotate_left 2; (focus (simp only [zGA, zGZ, zGS] <;> rfl)); (focus (exact fun _ _ _ h => h)); (focus rfl); (focus (intro w hSw; (try dsimp only at hSw); go_simp; (try with_reducible rfl); done)); (try simp only [Act.put, zPA, zPZ, zPS]))
              (refine zTK 20 (oi := ?_) (v := ?_) ?_ ?_ (Or.inl ⟨?_, ?_⟩) ?_; rotate_left 2; (focus (simp only [zGA, zGZ, zGS] <;> rfl)); (focus (exact fun _ _ _ h => h)); (focus rfl); (focus (intro w hSw; (try dsimp only at hSw); go_simp; (try with_reducible rfl); done)); (try simp only [Act.put, zPA, zPZ, zPS]))
              (refine zTK 21 (oi := ?_) (v := ?_) ?_ ?_ (Or.inl ⟨?_, ?_⟩) ?_; rotate_left 2; (focus (simp only [zGA, zGZ, zGS] <;> rfl)); (focus (exact fun _ _ _ h => h)); (focus rfl); (focus (intro w hSw; (try dsimp only at hSw); go_simp; (try with_reducible rfl); done)); (try simp only [Act.put, zPA, zPZ, zPS]))
              (refine zTK 22 (oi := ?_) (v := undef) ?_ ?_ (Or.inr ⟨?_, rfl⟩) ?_; rotate_left 1; (focus (simp only [zGA, zGZ, zGS] <;> rfl)); (focus (exact fun _ _ _ h => h)); (focus rfl); (try simp only [Act.put, zPA, zPZ, zPS]))
              (refine zTK 23 (oi := ?_) (v := undef) ?_ ?_ (Or.inr ⟨?_, rfl⟩) ?_; rotate_left 1; (focus (simp only [zGA, zGZ, zGS] <;> rfl)); (focus (exact fun _ _ _ h => h)); (focus rfl); (try simp only [Act.put, zPA, zPZ, zPS]))
              (refine zTK 24 (oi := ?_) (v := undef) ?_ ?_ (Or.inr ⟨?_, rfl⟩) ?_; rotate_left 1; (focus (simp only [zGA, zGZ, zGS] <;> rfl)); (focus (exact fun _ _ _ h => h)); (focus rfl); (try simp only [Act.put, zPA, zPZ, zPS]))
              (refine zTK 25 (oi := ?_) (v := undef) ?_ ?_ (Or.inr ⟨?_, rfl⟩) ?_; rotate_left 1; (focus (simp only [zGA, zGZ, zGS] <;> rfl)); (focus (exact fun _ _ _ h => h)); (focus rfl); (try simp only [Act.put, zPA, zPZ, zPS]))
              (refine zTK 26 (oi := ?_) (v := undef) ?_ ?_ (Or.inr ⟨?_, rfl⟩) ?_; rotate_left 1; (focus (simp only [zGA, zGZ, zGS] <;> rfl)); (focus (exact fun _ _ _ h => h)); (focus rfl); (try simp only [Act.put, zPA, zPZ, zPS]))
              (refine zTK 27 (oi := ?_) (v := ?_) ?_ ?_ (Or.inl ⟨?_, ?_⟩) ?_; rotate_left 2; (focus (simp only [zGA, zGZ, zGS] <;> rfl)); (focus (exact fun _ _ _ h => h)); (focus rfl); (focus (intro w hSw; (try dsimp only at hSw); go_simp; (try with_reducible rfl); done)); (try simp only [Act.put, zPA, zPZ, zPS]))
              (refine zTK 28 (oi := ?_) (v := ?_) ?_ ?_ (Or.inl ⟨?_, ?_⟩) ?_; rotate_left 2; (focus (simp only [zGA, zGZ, zGS] <;> rfl)); (focus (exact fun _ _ _ h => h)); (focus rfl); (focus (intro w hSw; (try dsimp only at hSw); go_simp; (try with_reducible rfl); done)); (try simp only [Act.put, zPA, zPZ, zPS]))
              refine wpAnyH_done (by kernel_rfl) ?_ _
              have HLST := Lib.hid (HFIN.out.same q0)
              clear hHeld q0 HS24 hbu
              go_wp2
              go_roundw
              case rel => exact ⟨j + 1, H2, left2, last2, c2, some es2, by omega, by omega, by go_num, HLST.out, HES3.out, HOI3.out⟩
              case measure => simp [intOf]; omega
    · obtain rfl : j = len := by omega
      go_wp2
      exact HEND.out

end Go.Proofs.YtmkaomglecfmfaaGreatDoor

namespace Go.Lap
open Go.ChangeShapes Go.WideShapes Go.ChangeAt Go.RowKit Go.Deep

section
variable {H : Type} {enc : TypeId × Value → H} {P : Program} {W : World} {r : Reach} {base : Nat} {v : Value} {d : DataW H} {p : List MemPlace}

theorem open_slice_of {t e : TypeId} {size : Nat} (ht : P.underlying t = some (.slice e)) (hC : P.cellsOf e = size) (hs : 0 < size) (hv : Value.okWide P W r base t v) (h : DataW.Trod enc P W 0 (fun _ => true) true t v d p) :
    ∃ A n cap, v = .slice A n cap ∧ n ≤ cap ∧ cap ≤ maxLen ∧ ∀ i, i < n → ∃ b off, A = some ⟨b, off, none⟩ ∧ b < W.heap.size ∧
      ∃ cs m x, cs.length = size ∧ (∀ f, f < size → W.cell? ⟨b, off + i * size + f, none⟩ = cs[f]?) ∧ DataW.trod enc P W 0 (fun _ => true) true m e cs = some x := by
  obtain ⟨A, n, cap, rfl⟩ := okWide_slice ht hv
  refine ⟨A, n, cap, rfl, ?_⟩
  obtain ⟨fuel, hf⟩ := h
  rcases open_slice ht hf with ⟨h0, _⟩ | ⟨a, len, cap', m, k, D, Pl, hcs, hb, hl, hm, hmm, _, hi⟩
  · simp [Value.cells] at h0
    obtain ⟨rfl, rfl, rfl⟩ := h0
    exact ⟨Nat.le_refl _, Nat.zero_le _, fun i hi => absurd hi (by omega)⟩
  · simp [Value.cells] at hcs
    obtain ⟨rfl, rfl, rfl⟩ := hcs
    refine ⟨hl, hm, fun i hin => ?_⟩
    simp only [if_true] at hmm
    obtain ⟨cs, hc, htr⟩ := hi i (by omega)
    rw [hC] at hc
    obtain ⟨_, hlen, hcell⟩ := World.cells?_some hc
    have h0 := hcell 0 hs
    rw [List.getElem?_eq_getElem (by omega)] at h0
    obtain ⟨b, off, spot⟩ := a
    have hlt := cell_lt h0
    have hspot : spot = none := by
      obtain ⟨cs0, hc0, _⟩ := hi 0 (by omega)
      rw [hC] at hc0
      obtain ⟨_, hlen0, hcell0⟩ := World.cells?_some hc0
      have h1 := hcell0 0 hs
      rw [List.getElem?_eq_getElem (by omega)] at h1
      simpa [Addr.add] using World.cell?_spot h1
    subst hspot
    refine ⟨b, off, rfl, ?_, cs, _, _, hlen, fun f hf => ?_, htr⟩
    · rw [add_none, add_none] at hlt; exact hlt
    · rw [← hcell f hf, add_none, add_none]

end
end Go.Lap

namespace Go.Lap
open Go.ChangeShapes Go.WideShapes Go.ChangeAt Go.RowKit Go.Deep

section
variable {H : Type} {enc : TypeId × Value → H} {P : Program} {W : World} {r : Reach} {base : Nat} {v : Value} {d : DataW H} {p : List MemPlace}

end

theorem nat_u8 {z : Int} (h : (Lit.int .u8 z).wf = true) : ∃ n : Nat, z = n ∧ n < 256 := by
  simp [Lit.wf, show IntKind.u8.min = 0 from rfl, show IntKind.u8.max = 255 from rfl] at h
  obtain ⟨h1, h2⟩ := h
  exact ⟨z.toNat, by omega, by omega⟩

end Go.Lap
namespace Go.Proofs.YtmkaomglecfmfaaGreatDoor
open Go.RowKit Go.Lap

/-- Bytes that came in, as one list. -/
theorem reads_bytes {W : World} {A : Option Addr} {n : Nat} (h : ∀ i, i < n → ∃ b off z, A = some ⟨b, off, none⟩ ∧ b < W.heap.size ∧ W.cell? ⟨b, off + i, none⟩ = some (.int .u8 z) ∧ (Lit.int .u8 z).wf = true) :
    ∃ l : List Nat, l.length = n ∧ (∀ x ∈ l, x < 256) ∧ Rd W (· < W.heap.size) 1 A n (bytesV l) := by
  rcases n with _ | n
  · exact ⟨[], rfl, fun x hx => (List.not_mem_nil hx).elim, ⟨rfl, fun h => absurd h (by simp [bytesV])⟩⟩
  obtain ⟨b, off, _, rfl, hb, _⟩ := h 0 (by omega)
  have h' : ∀ i, ∃ m : Nat, i < n + 1 → W.cell? ⟨b, off + i, none⟩ = some (.int .u8 m) ∧ m < 256 := by
    intro i
    by_cases hi : i < n + 1
    · obtain ⟨b', off', z, e, _, hc, hz⟩ := h i hi
      obtain ⟨m, rfl, hm⟩ := nat_u8 hz
      simp only [Option.some.injEq, Addr.mk.injEq] at e
      obtain ⟨rfl, rfl, _⟩ := e
      exact ⟨m, fun _ => ⟨hc, hm⟩⟩
    · exact ⟨0, fun x => absurd x hi⟩
  obtain ⟨g, hg⟩ := Classical.axiomOfChoice h'
  refine ⟨(List.range (n + 1)).map g, by simp, fun x hx => ?_, ⟨by simp [bytesV], fun _ => ⟨b, off, rfl, hb, fun j u hj => ?_⟩⟩⟩
  · obtain ⟨i, hi, rfl⟩ := List.mem_map.1 hx
    exact (hg i (List.mem_range.1 hi)).2
  · simp only [bytesV, List.map_map, List.getElem?_map] at hj
    by_cases hjn : j < n + 1
    · rw [List.getElem?_range hjn] at hj
      simp at hj
      subst hj
      exact (hg j hjn).1
    · rw [List.getElem?_eq_none (by simp; omega)] at hj
      simp at hj

theorem cells_u8o : Tryz.prog.cellsOf 5 = 1 := by kernel_rfl
open Go.ChangeShapes Go.WideShapes in
set_option maxRecDepth 100000 in
/-- Bytes that came in. -/
theorem open_bytes {H : Type} {enc : TypeId × Value → H} {W : World} {r : Reach} {base : Nat} {v : Value} {d : DataW H} {p : List MemPlace} (hv : Value.okWide Tryz.prog W r base 22 v) (h : DataW.Trod enc Tryz.prog W 0 (fun _ => true) true 22 v d p) :
    ∃ (l : List Nat) (A : Option Addr) (cap : Nat), v = .slice A l.length cap ∧ l.length ≤ cap ∧ cap ≤ maxLen ∧ (∀ x ∈ l, x < 256) ∧ Rd W (· < W.heap.size) 1 A l.length (bytesV l) := by
  obtain ⟨A, n, cap, hvv, h1, h2, h3⟩ := open_slice_of Tryz.underlying22 cells_u8o (by omega) hv h
  obtain ⟨l, rfl, hb, hr⟩ := reads_bytes (A := A) (n := n) (W := W) (fun i hi => by
    obtain ⟨b, off, hA, hb, cs', m', x', _, hc, htr⟩ := h3 i hi
    obtain ⟨z, rfl, _, hz⟩ := DataW.trod_int Tryz.underlying5 htr
    refine ⟨b, off, z, hA, hb, ?_, hz⟩
    have := hc 0 (by omega)
    rw [Nat.mul_one, Nat.add_zero] at this
    exact this)
  exact ⟨l, A, cap, hvv, h1, h2, hb, hr⟩

end Go.Proofs.YtmkaomglecfmfaaGreatDoor

namespace Go.Proofs.YtmkaomglecfmfaaGreatDoor
open Go.ChangeShapes Go.WideShapes Go.ChangeAt Go.RowKit Go.Lap

set_option maxRecDepth 100000 in
theorem storeEntries_walk {H : Type} {enc : TypeId × Value → H} {r : Reach} {base : Nat} {d0 d1 : DataW H} {p0 p1 : List MemPlace} (v0 v1 : Value) (W : World)
    (o0 : Value.okWide Tryz.prog W r base 22 v0) (h0 : DataW.Trod enc Tryz.prog W 0 (fun _ => true) true 22 v0 d0 p0)
    (o1 : Value.okWide Tryz.prog W r base 5 v1) (h1 : DataW.Trod enc Tryz.prog W 0 (fun _ => true) true 5 v1 d1 p1) :
    Calls Tryz.prog 3 #[v0, v1] W fun e w' => e = .returned (.bool true) ∧ Below W.heap.size W w' := by
  obtain ⟨x, rfl, _, _, wx⟩ := open_int Tryz.underlying5 o1 h1
  have hx := bounds_u8 wx
  obtain ⟨n, rfl⟩ : ∃ n : Nat, x = n := ⟨x.toNat, by omega⟩
  obtain ⟨l, A, cap, rfl, _, _, hb, hr⟩ := open_bytes o0 h0
  refine (entries_walk n (by omega) A cap l hb W (hr.mono (fun _ _ => trivial))).mono fun e W' ⟨he, hq⟩ => ⟨he, hq.os, hq.tape, hq.output, hq.size, fun k hk => hq.block k hk (fun x => x)⟩

end Go.Proofs.YtmkaomglecfmfaaGreatDoor
