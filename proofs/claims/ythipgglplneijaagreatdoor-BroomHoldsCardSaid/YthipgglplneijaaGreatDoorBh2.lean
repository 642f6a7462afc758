/- The contracts of package heap: Insert. The contracts of package heap: Insert whole, Free, Get, Stamp. The plain facts behind PageFills: a page of versions of one size. What the laws on heaps share: wide, awake; a heap in a law's world. Plain laws of heaps: what Insert and Free leave at every place. slices.SortFunc on a row that the call owns, of structs of k cells: a permutation, sorted. The library's sort of rows laid at this program (printed by the kit's lay-plain, numbers turned to names). The log of transactions as plain lists: four states in a byte; those that run. No condition. -/
import Derived.Test.YthipgglplneijaaGreatDoorBh1
import Derived.Deep.RegionLawGrows
import Derived.Shelf.SlSortCmp.NoneTotal
import Derived.Ground.SlsfProg
import Derived.Test.YthipgglplneijaaGreatDoorProg
import Derived.Maps.OwnOps
import Derived.Maps.OwnSet
import Derived.Maps.Ext
import Derived.DeepKeys4
import Derived.StillTailTactics
import Derived.Laws.RangeAny
import Derived.Lib.Bytealg
import Derived.BigQuiet
set_option maxRecDepth 100000
namespace Go.Lap
def findH (H : List (List (Option Tup))) (n : Nat) : Option Nat := H.findIdx? (fun T => decide ((n : Int) <= roomT T))
def hIns (H : List (List (Option Tup))) (left : Nat) (t : Tup) : (Int × Int × Int) × List (List (Option Tup)) × Nat :=
 if t.rightB = false then ((0, 0, 3), H, left) else
  match findH H t.data.length with
  | some i => ((i, freeT (H.getD i []), 0), H.set i (insT (H.getD i []) t), left)
  | none => if left = 0 then ((0, 0, 12), H, left) else ((H.length, 0, 0), H ++ [[some t]], left - 1)
theorem find_rooms (H : List (List (Option Tup))) (n : Nat) : rFind (H.map roomT) (n : Int) = match findH H n with | some i => ((i : Int), true) | none => (0, false) := by
 unfold rFind findH
 rw [List.findIdx?_map]
 rw [show max (n : Int) 0 = n by omega]
 rfl
theorem findH_some {H : List (List (Option Tup))} {n i : Nat} (h : findH H n = some i) : ∃ T, H[i]? = some T /\ (n : Int) <= roomT T := by
 unfold findH at h
 rw [List.findIdx?_eq_some_iff_getElem] at h
 obtain ⟨hi, h1, _⟩ := h
 exact ⟨H[i], List.getElem?_eq_getElem hi, of_decide_eq_true h1⟩
end Go.Lap
namespace Go.Proofs.YthipgglplneijaaGreatDoor
open Go.RowKit Go.Lap
theorem elem_page : Elem Tryz.prog 147 164 1 8 := Elem.mk' (.pointer none) Tryz.underlying147 (by kernel_rfl) rfl (by decide)
theorem info_tid : (Tryz.prog.info? 43).map (·.size) = some 2 := by kernel_rfl
theorem two_set {W : World} {b : Nat} {c0 c1 : Value} {t : TypeId} (h : W.heap[b]? = some (.cells #[c0, c1] t (0, 0))) (x y : Value) : ((W.setCell ⟨b, 0, none⟩ x).setCell ⟨b, 1, none⟩ y).heap[b]? = some (.cells #[x, y] t (0, 0)) := by
 rw [set_same (set_same h _ _)]
 rfl
theorem two_only (W : World) (b : Nat) (x y : Value) : Only (· = b) W ((W.setCell ⟨b, 0, none⟩ x).setCell ⟨b, 1, none⟩ y) :=
 ((Only.refl (· = b) W).setCell (p := ⟨b, 0, none⟩) (fun _ => rfl) x).setCell (p := ⟨b, 1, none⟩) (fun _ => rfl) y
structure InsW (G : Nat -> Prop) (w W : World) (t : Tup) (A : Option Addr) (cap : Nat) : Prop where
 only : Only G w W
 box : W.heap[w.heap.size]? = some (.cells #[.int .u64 t.row, .int .u64 t.xmin, .int .u64 t.xmax, .int .i64 t.pg, .int .i64 t.sl, .slice A t.data.length cap] 95 (0, 0))
 tid : W.heap[w.heap.size + 1]? = some (.cells #[.int .i64 0, .int .i64 0] 43 (0, 0))
section
variable {G : Nat -> Prop} {w W W' : World} {t : Tup} {A : Option Addr} {cap : Nat}
theorem InsW.start (w : World) (t : Tup) (A : Option Addr) (cap : Nat) : InsW (fun _ => False) w ((w.alloc (.cells #[.int .u64 t.row, .int .u64 t.xmin, .int .u64 t.xmax, .int .i64 t.pg, .int .i64 t.sl, .slice A t.data.length cap] 95)).alloc (.cells #[.int .i64 0, .int .i64 0] 43)) t A cap :=
 ⟨((Only.refl _ _).alloc _).alloc _, alloc_old (alloc_new _ _) _, two_new _ _ _⟩
theorem InsW.on {S : Nat -> Prop} (h : InsW G w W t A cap) (ho : Only S W W') (h1 : ∀ k, k < w.heap.size -> S k -> G k) (h2 : ∀ k, w.heap.size <= k -> k < w.heap.size + 2 -> ¬ S k) : InsW G w W' t A cap :=
 ⟨h.only.trans' ho h1, ho.get h.box (h2 _ (by omega) (by omega)), ho.get h.tid (h2 _ (by omega) (by omega))⟩
theorem InsW.mono {G' : Nat -> Prop} (h : InsW G w W t A cap) (hg : ∀ k, G k -> G' k) : InsW G' w W t A cap := ⟨h.only.mono (fun k _ x => hg k x), h.box, h.tid⟩
theorem InsW.quietly (h : InsW G w W t A cap) (hq : Quiet W W') : InsW G w W' t A cap := h.on hq (fun _ _ x => x.elim) (fun _ _ _ x => x)
theorem InsW.drew (h : InsW G w W t A cap) : InsW G w W.drew t A cap := ⟨h.only.drew, h.box, h.tid⟩
theorem InsW.drewN (h : InsW G w W t A cap) (n : Nat) : InsW G w (W.drewN n) t A cap := ⟨h.only.drewN n, h.box, h.tid⟩
theorem InsW.lt (h : InsW G w W t A cap) : w.heap.size + 1 < W.heap.size := lt_of_get h.tid
theorem InsW.cells (h : InsW G w W t A cap) : W.cell? ⟨w.heap.size + 1, 0, none⟩ = some (.int .i64 0) /\ W.cell? ⟨w.heap.size + 1, 1, none⟩ = some (.int .i64 0) /\ ∀ o, W.frozen? ⟨w.heap.size + 1, o, none⟩ = false :=
 ⟨by rw [cell_of h.tid]; rfl, by rw [cell_of h.tid]; rfl, fun o => frozen_of h.tid o⟩
theorem InsW.end_ (h : InsW G w W t A cap) (x y : Value) : Only G w ((W.setCell ⟨w.heap.size + 1, 0, none⟩ x).setCell ⟨w.heap.size + 1, 1, none⟩ y) :=
 h.only.trans' (two_only W _ x y) (fun k hk e => by omega)
theorem own_page (t : Tup) (A : Option Addr) (cap : Nat) (S : Nat -> Prop) (hby : ∀ x ∈ t.data, x < 256) (hd : Rd w S 1 A t.data.length (bytesV t.data)) (W w1 : World) (q : Nat) (h : InsW (fun _ => False) w W t A cap) (hq : Quiet W.drew w1) (hp : PageT w1 q []) (hq' : w.heap.size + 2 <= q) :
  Calls Tryz.prog 103 #[.pointer (some ⟨q, 0, none⟩), tupV t A cap] w1 fun e w' => e = .returned (.tuple #[.int .i64 0, .int .i64 (if t.rightB then 0 else 3)]) /\ InsW (fun _ => False) w w' t A cap := by
 have h1 := h.drew.quietly hq
 have := pageT_insert q [] t A cap _ w1 hp hby (hd.kept h1.only (fun _ _ x => x))
 have hr : (pInsT [] t).1 = 0 /\ (pInsT [] t).2.1 = if t.rightB then 0 else 3 := by
  unfold pInsT
  rcases e : t.rightB with _ | _
  ·exact ⟨rfl, rfl⟩
  ·rw [if_neg (by simp), if_neg (by
      have : t.data.length <= 200 := (of_decide_eq_true e).2.2.2.2
      have : roomT [] = 474 := by decide
      omega)]
   exact ⟨rfl, rfl⟩
 rw [hr.1, hr.2] at this
 exact this.mono fun e w' ⟨a, b, c⟩ => ⟨a, h1.on b (fun k hk e => by omega) (fun k h1 h2 e => by omega)⟩
end
set_option maxHeartbeats 1000000 in
theorem heap_insert_form (hb : Nat) (t : Tup) (A : Option Addr) (cap : Nat) (S : Nat -> Prop) (w : World) (ht : t.rightB = false) (hby : ∀ x ∈ t.data, x < 256) (hd : Rd w S 1 A t.data.length (bytesV t.data)) :
  Calls Tryz.prog 60 #[.pointer (some ⟨hb, 0, none⟩), tupV t A cap] w fun e w' => e = .returned (.tuple #[.agg #[.int .i64 0, .int .i64 0], .int .i64 3]) /\ Quiet w w' := by
 have HI := Lib.hid (own_page t A cap S hby hd)
 have H0 := Lib.hid (InsW.start w t A cap)
 simp only [ht, Bool.false_eq_true, if_false, if_true] at HI
 unfold tupV at HI ⊢
 clear ht hby hd
 go_enter Tryz.func60, Tryz.ntmps60
 go_wp2_with fail
 go_region_held3 (fun w' => w'.cell? ⟨w.heap.size, 0, none⟩ = some (.int .u64 t.row) /\ w'.cell? ⟨w.heap.size, 1, none⟩ = some (.int .u64 t.xmin) /\ w'.cell? ⟨w.heap.size, 2, none⟩ = some (.int .u64 t.xmax) /\ w'.cell? ⟨w.heap.size, 3, none⟩ = some (.int .i64 t.pg) /\ w'.cell? ⟨w.heap.size, 4, none⟩ = some (.int .i64 t.sl) /\ w'.cell? ⟨w.heap.size, 5, none⟩ = some (.slice A t.data.length cap))
  (first | go_keep | exact box_cells H2.out.box | exact box_cells H1.out.box | fail)
  (first
    | (go_at_call 72; go_must (refine (pageT_new _).mono ?_; rintro e w1 ⟨rfl, hq1, hs1, hp1⟩; have H1 := Lib.hid (H0.out.drew.quietly hq1); have HQ1 := Lib.hid hq1; simp only [World.size_drew, World.size_alloc] at hp1; have HP1 := Lib.hid hp1; clear hq1 hp1 hs1))
    | (go_at_call 103; go_must (refine (HI.out _ _ _ H0.out HQ1.out HP1.out (by omega)).mono ?_; rintro e w2 ⟨rfl, h2⟩; have H2 := Lib.hid h2; clear h2))
    | fail)
 clear HI H0 HQ1 HP1 H1
 obtain ⟨t0, t1, tf⟩ := H2.out.cells
 go_wp2_with fail
 exact bodyPost_ret (results_cell_tmp Tryz.results60 _ _ (w.heap.size + 1) _ _ (0, 0) _ (by rfl) (two_set H2.out.tid _ _) Tryz.underlying43 rfl info_tid) (by rfl) ⟨rfl, H2.out.end_ _ _⟩
theorem set_rooms (H : List (List (Option Tup))) (i : Nat) (T : List (Option Tup)) (hi : i < H.length) : setL (H.map roomT) i (roomT T) = (H.set i T).map roomT := by
 unfold setL
 rw [if_neg (by simp; omega), List.map_set]
theorem ins_new (t : Tup) (ht : t.rightB = true) : pInsT [] t = (0, 0, [some t]) := by
 unfold pInsT
 rw [if_neg (by simp [ht]), if_neg (by
   have : t.data.length <= 200 := (of_decide_eq_true ht).2.2.2.2
   have : roomT [] = 474 := by decide
   omega)]
 rfl
theorem ins_room {T : List (Option Tup)} {t : Tup} (ht : t.rightB = true) (hr : (t.data.length : Int) <= roomT T) : pInsT T t = ((freeT T : Int), 0, insT T t) := by
 unfold pInsT
 rw [if_neg (by simp [ht]), if_neg (by omega)]
set_option maxHeartbeats 1000000 in
theorem heap_insert_found (hb pb : Nat) (F : Nat -> Prop) (H : List (List (Option Tup))) (T : List (Option Tup)) (i : Nat) (t : Tup) (A : Option Addr) (cap : Nat) (S : Nat -> Prop) (w : World) (h : HeapIs w hb pb F H) (ht : t.rightB = true) (hf : findH H t.data.length = some i) (hT : H[i]? = some T)
  (hby : ∀ x ∈ t.data, x < 256) (hd : Rd w S 1 A t.data.length (bytesV t.data)) :
  Calls Tryz.prog 60 #[.pointer (some ⟨hb, 0, none⟩), tupV t A cap] w fun e w' => e = .returned (.tuple #[.agg #[.int .i64 (i : Int), .int .i64 (freeT T : Int)], .int .i64 0]) /\ Only F w w' /\ HeapIs w' hb pb F (H.set i (insT T t)) := by
 have HI := Lib.hid (own_page t A cap S hby hd)
 have H0 := Lib.hid (InsW.start w t A cap)
 simp only [ht, Bool.false_eq_true, if_false, if_true] at HI
 have h256 := h.most
 obtain ⟨v, ps, rb, h⟩ := h.lim
 have hfr := find_rooms H t.data.length
 rw [hf] at hfr
 have hil : i < H.length := (List.getElem?_eq_some_iff.1 hT).1
 obtain ⟨p, hp, hpt⟩ := h.pg i T hT
 obtain ⟨T', hT', hrm⟩ := findH_some hf
 obtain rfl : T = T' := by rw [hT] at hT'; injection hT'
 have HIN : Hid (∀ w1, Quiet w w1 -> Calls Tryz.prog 103 #[.pointer (some ⟨p, 0, none⟩), tupV t A cap] w1 fun e w' => e = .returned (.tuple #[.int .i64 (freeT T : Int), .int .i64 0]) /\ Only (· = p) w1 w' /\ PageT w' p (insT T t)) := fun w1 hq => by
  have := pageT_insert p T t A cap _ w1 (hpt.kept hq (fun x => x)) hby (hd.kept hq (fun _ _ x => x))
  rw [ins_room ht hrm] at this
  exact this
 obtain ⟨B, c, hv, hc, hm, hr⟩ := h.rowForm
 obtain ⟨g, rfl, hg⟩ := hr i p hp
 have hall := h.cells
 rw [hv] at hall
 obtain ⟨c0, c1, c2⟩ := hall
 have hl1 := lt_of_get h.box
 have hl2 := cell_lt hg
 have HH := Lib.hid h
 have HFR := Lib.hid hfr
 have HHP := Lib.hid hp
 have HV := Lib.hid hv
 unfold maxLen at hm
 unfold tupV at HI HIN ⊢
 clear ht hby hd hf h hfr hr hpt hT' hrm hp hv
 go_enter Tryz.func60, Tryz.ntmps60
 go_wp2_with fail
 go_region_held3 (fun w' => w'.cell? ⟨w.heap.size, 0, none⟩ = some (.int .u64 t.row) /\ w'.cell? ⟨w.heap.size, 1, none⟩ = some (.int .u64 t.xmin) /\ w'.cell? ⟨w.heap.size, 2, none⟩ = some (.int .u64 t.xmax) /\ w'.cell? ⟨w.heap.size, 3, none⟩ = some (.int .i64 t.pg) /\ w'.cell? ⟨w.heap.size, 4, none⟩ = some (.int .i64 t.sl) /\ w'.cell? ⟨w.heap.size, 5, none⟩ = some (.slice A t.data.length cap))
  (first | go_keep | exact box_cells H2.out.box | exact box_cells H1.out.box | fail)
  (first
    | (go_at_call 72; go_must (refine (pageT_new _).mono ?_; rintro e w1 ⟨rfl, hq1, hs1, hp1⟩; have H1 := Lib.hid (H0.out.drew.quietly hq1); have HQ1 := Lib.hid hq1; simp only [World.size_drew, World.size_alloc] at hp1; have HP1 := Lib.hid hp1; clear hq1 hp1 hs1))
    | (go_at_call 103; go_must (refine (HI.out _ _ _ H0.out HQ1.out HP1.out (by omega)).mono ?_; rintro e w2 ⟨rfl, h2⟩; have H2 := Lib.hid h2; clear h2))
    | fail)
 clear HI H0 HQ1 HP1 H1
 have HH2 := Lib.hid (HH.out.kept H2.out.only (fun _ _ x => x))
 obtain ⟨b0, b1, b2, b3, b4, b5⟩ := box_cells H2.out.box
 have k1 := H2.out.only.cell c1 (fun x => x)
 have k2 := H2.out.only.cell c2 (fun x => x)
 have kg := H2.out.only.cell hg (fun x => x)
 have d0 : decide ((i : Int) < 0) = false := by simp
 have d1 : decide ((H.length : Int) <= i) = false := by simp; omega
 clear c0 c1 c2 hg
 go_wp2_with fail
 go_quiet ((go_at_call 104; exact quiet_left (room_find rb _ _ _ (HH2.out.room.drewN _))))
 rw [HFR.out]
 go_wp2_with fail
 have HNE : Hid ((¬ hb = p) /\ (¬ g = p) /\ p < w.heap.size) := ⟨fun e => HH.out.apart.ph p (List.mem_of_getElem? HHP.out) e.symm, fun e => HH.out.apart.vp g (by rw [HV.out]; rfl) p (List.mem_of_getElem? HHP.out) e, by obtain ⟨d, hd⟩ := HH.out.pblk (List.mem_of_getElem? HHP.out); exact lt_of_get hd⟩
 go_region_held3 (fun w' => w'.cell? ⟨hb, 1, none⟩ = some (.slice (some ⟨g, 0, none⟩) H.length c) /\ w'.cell? ⟨g, i, none⟩ = some (ptrV p) /\ w'.cell? ⟨w.heap.size, 0, none⟩ = some (.int .u64 t.row) /\ w'.cell? ⟨w.heap.size, 1, none⟩ = some (.int .u64 t.xmin) /\ w'.cell? ⟨w.heap.size, 2, none⟩ = some (.int .u64 t.xmax) /\ w'.cell? ⟨w.heap.size, 3, none⟩ = some (.int .i64 t.pg) /\ w'.cell? ⟨w.heap.size, 4, none⟩ = some (.int .i64 t.sl) /\ w'.cell? ⟨w.heap.size, 5, none⟩ = some (.slice A t.data.length cap))
  (first | go_keep | exact ⟨ho4.cell (by exact k1) HNE.out.1, ho4.cell (by exact kg) HNE.out.2.1, box_cells (ho4.get (by exact H2.out.box) (by have := HNE.out.2.2; omega))⟩ | fail)
  (first
    | (go_at_call 103; go_must (refine (HIN.out _ (H2.out.only.drewN _)).mono ?_; rintro e w4 ⟨rfl, ho4, hp4⟩))
    | fail)
 have HH4 := Lib.hid ((HH2.out.drewN _).turn HHP.out ho4 hp4)
 have H4 : Hid (InsW F w w4 t A cap) := ((H2.out.drewN _).mono (fun _ x => x.elim)).on ho4 (fun k _ e => by subst e; exact (HH.out.foot.2.2.1 k (List.mem_of_getElem? HHP.out)).1) (fun k h1 h2 e => by have := HNE.out.2.2; omega)
 clear ho4 hp4 HH2 H2 HIN HFR k1 k2 kg b0 b1 b2 b3 b4 b5
 go_wp2_with fail
 refine (heap_told i p (insT T t) HH4.out HHP.out (by rw [List.getElem?_set_self hil]) (by simp; omega) (by omega)).mono ?_
 rintro e w5 ⟨rfl, ho5, hh5⟩
 rw [set_rooms H i _ hil] at hh5
 have HH5 := Lib.hid hh5
 have H5 := Lib.hid (H4.out.on ho5 (fun k _ e => by subst e; exact HH.out.foot.2.1.1) (fun k h1 h2 e => by have := HH.out.room.lt; omega))
 clear ho5 hh5 HH4 H4
 obtain ⟨t0, t1, tf⟩ := H5.out.cells
 go_wp2_with fail
 exact bodyPost_ret (results_cell_tmp Tryz.results60 _ _ (w.heap.size + 1) _ _ (0, 0) _ (by rfl) (two_set H5.out.tid _ _) Tryz.underlying43 rfl info_tid) (by rfl) ⟨rfl, H5.out.end_ _ _, _, _, _, (HH5.out.kept (two_only _ _ _ _) (fun k hk e => by have := hk.2; omega)).mono (fun _ x => x.1)⟩
set_option maxHeartbeats 1000000 in
theorem heap_insert_full (hb pb : Nat) (F : Nat -> Prop) (H : List (List (Option Tup))) (t : Tup) (A : Option Addr) (cap : Nat) (S : Nat -> Prop) (w : World) (h : HeapIs w hb pb F H) (hpo : PoolAt w pb 0) (ht : t.rightB = true) (hf : findH H t.data.length = none)
  (hby : ∀ x ∈ t.data, x < 256) (hd : Rd w S 1 A t.data.length (bytesV t.data)) :
  Calls Tryz.prog 60 #[.pointer (some ⟨hb, 0, none⟩), tupV t A cap] w fun e w' => e = .returned (.tuple #[.agg #[.int .i64 0, .int .i64 0], .int .i64 12]) /\ Quiet w w' := by
 have HI := Lib.hid (own_page t A cap S hby hd)
 have H0 := Lib.hid (InsW.start w t A cap)
 simp only [ht, Bool.false_eq_true, if_false, if_true] at HI
 have h256 := h.most
 obtain ⟨v, ps, rb, h⟩ := h.lim
 have hfr := find_rooms H t.data.length
 rw [hf] at hfr
 obtain ⟨B, c, hv, hc, hm, hr⟩ := h.rowForm
 have hall := h.cells
 rw [hv] at hall
 obtain ⟨c0, c1, c2⟩ := hall
 have hl1 := lt_of_get h.box
 have HH := Lib.hid h
 have HFR := Lib.hid hfr
 have HV := Lib.hid hv
 have HPO := Lib.hid hpo
 unfold maxLen at hm
 unfold tupV at HI ⊢
 clear ht hf h hfr hr hv
 clear hby hd hpo
 go_enter Tryz.func60, Tryz.ntmps60
 go_wp2_with fail
 go_region_held3 (fun w' => w'.cell? ⟨w.heap.size, 0, none⟩ = some (.int .u64 t.row) /\ w'.cell? ⟨w.heap.size, 1, none⟩ = some (.int .u64 t.xmin) /\ w'.cell? ⟨w.heap.size, 2, none⟩ = some (.int .u64 t.xmax) /\ w'.cell? ⟨w.heap.size, 3, none⟩ = some (.int .i64 t.pg) /\ w'.cell? ⟨w.heap.size, 4, none⟩ = some (.int .i64 t.sl) /\ w'.cell? ⟨w.heap.size, 5, none⟩ = some (.slice A t.data.length cap))
  (first | go_keep | exact box_cells H2.out.box | exact box_cells H1.out.box | fail)
  (first
    | (go_at_call 72; go_must (refine (pageT_new _).mono ?_; rintro e w1 ⟨rfl, hq1, hs1, hp1⟩; have H1 := Lib.hid (H0.out.drew.quietly hq1); have HQ1 := Lib.hid hq1; simp only [World.size_drew, World.size_alloc] at hp1; have HP1 := Lib.hid hp1; clear hq1 hp1 hs1))
    | (go_at_call 103; go_must (refine (HI.out _ _ _ H0.out HQ1.out HP1.out (by omega)).mono ?_; rintro e w2 ⟨rfl, h2⟩; have H2 := Lib.hid h2; clear h2))
    | fail)
 clear HI H0 HQ1 HP1 H1
 have HH2 := Lib.hid (HH.out.kept H2.out.only (fun _ _ x => x))
 have HPO2 := Lib.hid (HPO.out.kept H2.out.only (fun x => x))
 obtain ⟨b0, b1, b2, b3, b4, b5⟩ := box_cells H2.out.box
 have k0 := H2.out.only.cell c0 (fun x => x)
 have k1 := H2.out.only.cell c1 (fun x => x)
 have k2 := H2.out.only.cell c2 (fun x => x)
 clear c0 c1 c2
 go_wp2_with fail
 go_quiet ((go_at_call 104; exact quiet_left (room_find rb _ _ _ (HH2.out.room.drewN _))))
 rw [HFR.out]
 go_wp2_with fail
 refine (pool_left pb 0 _ (by exact HPO2.out)).mono ?_
 rintro e w3 ⟨rfl, rfl⟩
 obtain ⟨t0, t1, tf⟩ := H2.out.cells
 go_wp2_with fail
 exact bodyPost_ret (results_cell_tmp Tryz.results60 _ _ (w.heap.size + 1) _ _ (0, 0) _ (by rfl) (two_set (H2.out.drewN _).tid _ _) Tryz.underlying43 rfl info_tid) (by rfl) ⟨rfl, (H2.out.drewN _).end_ _ _⟩
set_option maxHeartbeats 1000000 in
theorem heap_insert_grow (hb pb left : Nat) (F : Nat -> Prop) (H : List (List (Option Tup))) (t : Tup) (A : Option Addr) (cap : Nat) (S : Nat -> Prop) (w : World) (h : HeapIs w hb pb F H) (hpo : PoolAt w pb (left + 1)) (ht : t.rightB = true) (hf : findH H t.data.length = none) (hle : H.length + (left + 1) <= 256)
  (hby : ∀ x ∈ t.data, x < 256) (hd : Rd w S 1 A t.data.length (bytesV t.data)) (hS : ∀ k, S k -> ¬ F k /\ k ≠ pb) :
  Calls Tryz.prog 60 #[.pointer (some ⟨hb, 0, none⟩), tupV t A cap] w fun e w' => e = .returned (.tuple #[.agg #[.int .i64 (H.length : Int), .int .i64 0], .int .i64 0]) /\ Only (fun k => F k ∨ k = pb) w w' /\ PoolAt w' pb left /\ HeapIs w' hb pb (fun k => F k ∨ w.heap.size <= k) (H ++ [[some t]]) := by
 have HI := Lib.hid (own_page t A cap S hby hd)
 have H0 := Lib.hid (InsW.start w t A cap)
 simp only [ht, Bool.false_eq_true, if_false, if_true] at HI
 have h256 := h.most
 obtain ⟨v, ps, rb, h⟩ := h
 replace h := h.lim2 hpo
 have hfr := find_rooms H t.data.length
 rw [hf] at hfr
 obtain ⟨B, c, hv, hc, hm, hr⟩ := h.rowForm
 have hall := h.cells
 rw [hv] at hall
 obtain ⟨c0, c1, c2⟩ := hall
 have hl1 := lt_of_get h.box
 have HH := Lib.hid h
 have HFR := Lib.hid hfr
 have HV := Lib.hid hv
 have HPO := Lib.hid hpo
 have HT := Lib.hid ht
 unfold maxLen at hm
 unfold tupV at HI ⊢
 clear ht hf h hfr hr hv
 have hne : ¬ hb = pb := fun e => (HH.out.pool hpo).1 e.symm
 have hne' : ¬ pb = hb := fun e => hne e.symm
 have hl0 : ¬ ((left : Int) + 1 = 0) := by omega
 have HD := Lib.hid hd
 have HBY := Lib.hid hby
 have HS := Lib.hid hS
 clear hby hd hpo hS
 go_enter Tryz.func60, Tryz.ntmps60
 go_wp2_with fail
 go_region_held3 (fun w' => w'.cell? ⟨w.heap.size, 0, none⟩ = some (.int .u64 t.row) /\ w'.cell? ⟨w.heap.size, 1, none⟩ = some (.int .u64 t.xmin) /\ w'.cell? ⟨w.heap.size, 2, none⟩ = some (.int .u64 t.xmax) /\ w'.cell? ⟨w.heap.size, 3, none⟩ = some (.int .i64 t.pg) /\ w'.cell? ⟨w.heap.size, 4, none⟩ = some (.int .i64 t.sl) /\ w'.cell? ⟨w.heap.size, 5, none⟩ = some (.slice A t.data.length cap))
  (first | go_keep | exact box_cells H2.out.box | exact box_cells H1.out.box | fail)
  (first
    | (go_at_call 72; go_must (refine (pageT_new _).mono ?_; rintro e w1 ⟨rfl, hq1, hs1, hp1⟩; have H1 := Lib.hid (H0.out.drew.quietly hq1); have HQ1 := Lib.hid hq1; simp only [World.size_drew, World.size_alloc] at hp1; have HP1 := Lib.hid hp1; clear hq1 hp1 hs1))
    | (go_at_call 103; go_must (refine (HI.out _ _ _ H0.out HQ1.out HP1.out (by omega)).mono ?_; rintro e w2 ⟨rfl, h2⟩; have H2 := Lib.hid h2; clear h2))
    | fail)
 clear HI H0 HQ1 HP1 H1
 have HH2 := Lib.hid (HH.out.kept H2.out.only (fun _ _ x => x))
 have HPO2 := Lib.hid (HPO.out.kept H2.out.only (fun x => x))
 obtain ⟨b0, b1, b2, b3, b4, b5⟩ := box_cells H2.out.box
 have k0 := H2.out.only.cell c0 (fun x => x)
 have k1 := H2.out.only.cell c1 (fun x => x)
 have k2 := H2.out.only.cell c2 (fun x => x)
 clear c0 c1 c2
 go_wp2_with fail
 go_quiet ((go_at_call 104; exact quiet_left (room_find rb _ _ _ (HH2.out.room.drewN _))))
 rw [HFR.out]
 go_wp2_with fail
 refine (pool_left pb _ _ (by exact HPO2.out)).mono ?_
 rintro e w3 ⟨rfl, rfl⟩
 have hpc := HPO2.out.cell
 have hpf := frozen_of HPO2.out 0
 go_upto_region 12 with fail
 have HO3 : Hid (Only (· = pb) w2 ((w2.drewN nq).setCell ⟨pb, 0, none⟩ (.int .i64 (left : Int)))) := ((Only.refl (· = pb) w2).drewN nq).setCell (p := ⟨pb, 0, none⟩) (fun _ => rfl) _
 have HH3 := Lib.hid (HH2.out.kept HO3.out (fun k hk e => hk.2.2 e))
 have H3 := Lib.hid ((H2.out.mono (G' := fun k => k = pb) (fun _ x => x.elim)).on HO3.out (fun _ _ e => e) (fun k h1 h2 e => by have := HPO.out.lt; omega))
 have HPO3 : Hid (PoolAt ((w2.drewN nq).setCell ⟨pb, 0, none⟩ (.int .i64 (left : Int))) pb left) := PoolAt.set (w := w2.drewN nq) HPO2.out rfl
 clear HPO2 HH2 H2 HO3 HFR b0 b1 b2 b3 b4 b5 k0 k1 k2 hpc hpf
 generalize (w2.drewN nq).setCell ⟨pb, 0, none⟩ (.int .i64 (left : Int)) = w3 at HH3 H3 HPO3 ⊢
 have k1 : w3.cell? ⟨hb, 1, none⟩ = some (.slice B H.length c) := by rw [<- HV.out]; exact HH3.out.cells.2.1
 go_cut [] (fun wx => ∃ q v', w3.heap.size <= q /\ HeapAt wx hb pb (fun k => (F k /\ k < w.heap.size /\ k ≠ pb) ∨ w3.heap.size <= k) (H ++ [[]]) (H.map roomT) v' (ps ++ [q]) rb /\ Only (fun k => F k /\ k < w.heap.size /\ k ≠ pb) w3 wx)
 case first =>
  have HROW : Hid (w3.ownsRow 0 164 1 (.slice B H.length c) H.length (ps.map ptrV)) := by rw [<- HV.out]; exact HH3.out.row
  have HNB : Hid (∀ k, (Value.slice B H.length c).ownBlock = some k -> k ≠ hb) := by rw [<- HV.out]; exact HH3.out.apart.vh
  go_region_law (first
    | (go_simp; go_at_call 72; refine (pageT_new _).mono ?_; rintro e w4 ⟨rfl, hq4, hs4, hp4⟩; have k4 : w4.cell? ⟨hb, 1, none⟩ = some (.slice B H.length c) := hq4.cell (by exact k1) (fun x => x); have hl4 : hb < w4.heap.size := cell_lt k4; have hn4 : ¬ hb = w4.heap.size := by omega)
    | (refine app_step elem_page rfl (.tmp 63) (.tmp 65) rfl rfl (owns_kept (owns_kept (by exact HROW.out) hq4 (fun _ _ x => x)) ((Only.refl (fun _ => False) w4).alloc _) (fun _ _ x => x)) rfl (Rd.one w4 (ptrV w3.heap.size) 164 (0, 0) (S := fun _ => True) trivial) (one_ptr [w3.heap.size]) (by unfold maxLen; omega) (by omega) ?_; intro v5 w5 hg5; have hb5 := hg5.only.get (alloc_old (hq4.get (by exact HH3.out.box) (fun x => x)) _) (fun e => HNB.out hb e rfl); obtain ⟨A5, c5, hv5, _, _, _⟩ := own_form hg5.own; subst hv5; have s1 := cell_of hb5 1; have s2 := fun o => frozen_of hb5 o; simp only [zGA, zGS, zGZ] at s1)
    | fail)
  all_goals
   go_wp2_with fail
   go_meet
   have hq : Quiet w3 w4 := ((Only.refl _ _).drew).trans hq4
   have hgr := HH3.out.grow hq hp4 (Nat.le_refl _) (by rw [HV.out]; exact hg5)
   exact ⟨_, _, Nat.le_refl _, hgr.1, hgr.2⟩
 case rest =>
  obtain ⟨q, v', hq3, hh4, ho4⟩ := hcut
  have hpl : ps.length = H.length := HH.out.plen
  have hw3 := H3.out.lt
  have HHP : Hid ((ps ++ [q])[H.length]? = some q) := by show (ps ++ [q])[H.length]? = some q; rw [<- hpl]; simp
  have H4 : Hid (InsW (fun k => F k ∨ k = pb) w wc t A cap) := (H3.out.mono (fun _ x => Or.inr x)).on ho4 (fun _ _ x => Or.inl x.1) (fun k h1 h2 x => by have := x.2.1; omega)
  have HPO4 : Hid (PoolAt wc pb left) := HPO3.out.kept ho4 (fun x => x.2.2 rfl)
  have HD4 : Hid (Rd wc S 1 A t.data.length (bytesV t.data)) := HD.out.kept H4.out.only (fun k hk x => by rcases x with x | x; exact (HS.out k hk).1 x; exact (HS.out k hk).2 x)
  obtain ⟨B4, c4, hv4, hc4, hm4, hr4⟩ := hh4.rowForm
  obtain ⟨g, rfl, hg⟩ := hr4 H.length q HHP.out
  obtain ⟨T', hT', hpt⟩ := hh4.page HHP.out
  have hT0 : T' = [] := by simp at hT'; exact hT'
  subst hT0
  have hk1 := hh4.cells.2.1
  rw [hv4] at hk1
  obtain ⟨b0, b1, b2, b3, b4, b5⟩ := box_cells H4.out.box
  have HIN := Lib.hid (fun n => pageT_insert q [] t A cap S (wc.drewN n) (by exact hpt) HBY.out (HD4.out.kept ((Only.refl (fun _ => False) wc).drewN n) (fun _ _ x => x)))
  rw [ins_new t HT.out] at HIN
  unfold tupV at HIN
  rw [List.length_append, List.length_singleton] at hv4 hk1 hc4
  have HH4 := Lib.hid hh4
  have HV4 := Lib.hid hv4
  have HNE : Hid ((¬ hb = q) /\ (¬ g = q) /\ (¬ w.heap.size = q) /\ (¬ w.heap.size + 1 = q) /\ ¬ pb = q) := by
   have ha := hh4.apart
   have hm : q ∈ ps ++ [q] := by simp
   obtain ⟨d, hd⟩ := hh4.pblk hm
   refine ⟨fun e => ha.ph q hm e.symm, fun e => ha.vp g (by rw [hv4]; rfl) q hm e, ne_type H4.out.box hd (by decide), ne_type H4.out.tid hd (by decide), ne_type HPO4.out hd (by decide)⟩
  have d0 : decide ((H.length : Int) < 0) = false := by simp
  have d1 : decide ((H.length : Int) + 1 <= H.length) = false := decide_eq_false (by omega)
  have d2 : ¬ (H.length : Int) + 1 <= H.length := by omega
  have d3 : (H.length : Int) < H.length + 1 := by omega
  unfold maxLen at hm4
  clear hh4 ho4 hr4 hT' hpt hv4 HD4 HD HS HBY H3 HH3 HPO3 k1
  go_wp2_with fail
  go_region_held3 (fun w' => w'.cell? ⟨hb, 1, none⟩ = some (.slice (some ⟨g, 0, none⟩) (H.length + 1) c4) /\ w'.cell? ⟨g, H.length, none⟩ = some (ptrV q) /\ w'.cell? ⟨w.heap.size, 0, none⟩ = some (.int .u64 t.row) /\ w'.cell? ⟨w.heap.size, 1, none⟩ = some (.int .u64 t.xmin) /\ w'.cell? ⟨w.heap.size, 2, none⟩ = some (.int .u64 t.xmax) /\ w'.cell? ⟨w.heap.size, 3, none⟩ = some (.int .i64 t.pg) /\ w'.cell? ⟨w.heap.size, 4, none⟩ = some (.int .i64 t.sl) /\ w'.cell? ⟨w.heap.size, 5, none⟩ = some (.slice A t.data.length cap))
   (first | go_keep | exact ⟨ho5.cell (by exact hk1) HNE.out.1, ho5.cell (by exact hg) HNE.out.2.1, box_cells (ho5.get (by exact H4.out.box) HNE.out.2.2.1)⟩ | fail)
   (first
     | (go_at_call 103; go_must (refine (HIN.out 1).mono ?_; rintro e w5 ⟨rfl, ho5, hp5⟩))
     | fail)
  have hh5 := (HH4.out.drewN 1).turn HHP.out ho5 hp5
  rw [show (H ++ [([] : List (Option Tup))]).set H.length [some t] = H ++ [[some t]] by simp] at hh5
  have HH5 := Lib.hid hh5
  have hw4 : w.heap.size <= wc.heap.size := H4.out.only.size
  have hql : w.heap.size <= q := by omega
  have H5 := Lib.hid ((H4.out.drewN 1).on ho5 (fun k h1 e => by omega) (fun k h1 h2 e => by have := HNE.out; omega))
  have HPO5 : Hid (PoolAt w5 pb left) := PoolAt.kept (w := wc.drewN 1) HPO4.out ho5 HNE.out.2.2.2.2
  clear ho5 hp5 hh5 HH4 H4 HIN HPO4 hk1 hg b0 b1 b2 b3 b4 b5
  go_wp2_with fail
  refine (heap_told H.length q [some t] HH5.out HHP.out (by simp) (by simp) (by omega)).mono ?_
  rintro e w6 ⟨rfl, ho6, hh6⟩
  rw [show setL (H.map roomT) H.length (roomT [some t]) = (H ++ [[some t]]).map roomT by unfold setL; rw [if_pos (by simp)]; simp] at hh6
  have HH6 := Lib.hid hh6
  have hrl := HH.out.room.lt
  have H6 := Lib.hid (H5.out.on ho6 (fun k _ e => by subst e; exact Or.inl HH.out.foot.2.1.1) (fun k h1 h2 e => by omega))
  have HPO6 : Hid (PoolAt w6 pb left) := HPO5.out.kept ho6 (fun e => (HH.out.pool HPO.out).2.1 e)
  clear ho6 hh6 HH5 H5 HPO5
  obtain ⟨t0, t1, tf⟩ := H6.out.cells
  go_wp2_with fail
  exact bodyPost_ret (results_cell_tmp Tryz.results60 _ _ (w.heap.size + 1) _ _ (0, 0) _ (by rfl) (two_set H6.out.tid _ _) Tryz.underlying43 rfl info_tid) (by rfl) ⟨rfl, H6.out.end_ _ _, HPO6.out.kept (two_only _ _ _ _) (by have := HPO.out.lt; omega), _, _, _, (HH6.out.kept (two_only _ _ _ _) (fun k hk e => by rcases hk with x | x; have := x.2.1; omega; omega)).mono (fun k x => by rcases x with x | x; exact Or.inl x.1; exact Or.inr (by omega))⟩
end Go.Proofs.YthipgglplneijaaGreatDoor
namespace Go.Lap
def hGet (H : List (List (Option Tup))) (pg sl : Int) : Option Tup := if pg < 0 then none else tupAt (H.getD pg.toNat []) sl
def hFree (H : List (List (Option Tup))) (pg sl : Int) : Int × List (List (Option Tup)) :=
 match hGet H pg sl with
 | none => (15, H)
 | some _ => (0, H.set pg.toNat (trimT ((H.getD pg.toNat []).set sl.toNat none)))
def hStamp (H : List (List (Option Tup))) (pg sl : Int) (xmax : Nat) (npg nsl : Int) : Int × List (List (Option Tup)) :=
 if pg < 0 ∨ (H.length : Int) <= pg then ((pStampT [] sl xmax npg nsl).1, H) else ((pStampT (H.getD pg.toNat []) sl xmax npg nsl).1, H.set pg.toNat (pStampT (H.getD pg.toNat []) sl xmax npg nsl).2)
theorem tupAt_nil (i : Int) : tupAt [] i = none := by
 unfold tupAt
 split <;> rfl
theorem hGet_out {H : List (List (Option Tup))} {pg sl : Int} (h : pg < 0 ∨ (H.length : Int) <= pg) : hGet H pg sl = none := by
 unfold hGet
 split
 ·rfl
 ·rw [List.getD_eq_getElem?_getD, List.getElem?_eq_none (by omega)]
  exact tupAt_nil sl
theorem hGet_in {H : List (List (Option Tup))} {k : Nat} {T : List (Option Tup)} (sl : Int) (h : H[k]? = some T) : hGet H (k : Int) sl = tupAt T sl := by
 unfold hGet
 rw [if_neg (by omega), Int.toNat_natCast, List.getD_eq_getElem?_getD, h]
 rfl
theorem getD_of {H : List (List (Option Tup))} {k : Nat} {T : List (Option Tup)} (h : H[k]? = some T) : H.getD k [] = T := by
 rw [List.getD_eq_getElem?_getD, h]; rfl
theorem set_same_len (T : List (Option Tup)) (i : Nat) (t u : Tup) (h : T[i]? = some (some t)) : freeT (T.set i (some u)) = freeT T := by
 have e : (T.set i (some u)).map (fun s => s.isNone) = T.map (fun s => s.isNone) := by
  rw [List.map_set]
  apply List.ext_getElem?
  intro j
  rw [List.getElem?_set]
  by_cases x : i = j
  ·subst x
   have hl : i < T.length := (List.getElem?_eq_some_iff.1 h).1
   rw [if_pos rfl, if_pos (by simpa using hl), List.getElem?_map, h]
   rfl
  ·rw [if_neg x]
 have f : ∀ L : List (Option Tup), freeT L = ((L.map (fun s => s.isNone)).findIdx? (fun b => b)).getD L.length := by
  intro L
  unfold freeT
  rw [List.findIdx?_map]
  rfl
 rw [f, f T, e, List.length_set]
theorem sum_set_same {α : Type} (f : α -> Nat) (T : List α) (i : Nat) (a b : α) (h : T[i]? = some a) (hf : f b = f a) : ((T.set i b).map f).sum = (T.map f).sum := by
 have e : (T.set i b).map f = T.map f := by
  rw [List.map_set]
  apply List.ext_getElem?
  intro j
  rw [List.getElem?_set]
  by_cases x : i = j
  ·subst x
   have hl : i < T.length := (List.getElem?_eq_some_iff.1 h).1
   rw [if_pos rfl, if_pos (by simpa using hl), List.getElem?_map, h, Option.map_some, hf]
  ·rw [if_neg x]
 rw [e]
theorem tupAt_some {T : List (Option Tup)} {i : Int} {t : Tup} (h : tupAt T i = some t) : 0 <= i /\ T[i.toNat]? = some (some t) := by
 unfold tupAt at h
 split at h
 ·cases h
 ·refine ⟨by omega, ?_⟩
  rcases hx : T[i.toNat]? with _ | s
  ·rw [hx] at h; cases h
  ·rw [hx] at h
   have : s = some t := h
   rw [this]
theorem pStamp_room (T : List (Option Tup)) (i : Int) (x : Nat) (pg sl : Int) : roomT (pStampT T i x pg sl).2 = roomT T := by
 unfold pStampT
 split
 ·rfl
 ·rcases h : tupAt T i with _ | t
  ·rfl
  ·obtain ⟨h0, h1⟩ := tupAt_some h
   show roomT (T.set i.toNat (some (t.stamp x pg sl))) = roomT T
   unfold roomT spentT
   rw [set_same_len T _ t _ h1, List.length_set, sum_set_same (fun s => 4 + sizeT s) T _ (some t) (some (t.stamp x pg sl)) h1 rfl]
end Go.Lap
namespace Go.Proofs.YthipgglplneijaaGreatDoor
open Go.RowKit Go.Lap
section
variable {w : World} {hb pb : Nat} {F : Nat -> Prop} {H : List (List (Option Tup))}
theorem HeapIs.lim2 {n q : Nat} (h : HeapIs w hb pb F H) (hq : PoolAt w q n) : HeapIs w hb pb (fun k => F k /\ k < w.heap.size /\ k ≠ q) H := by
 obtain ⟨v, ps, rb, h⟩ := h
 exact ⟨v, ps, rb, h.lim2 hq⟩
theorem heap_insert (left : Nat) (t : Tup) (A : Option Addr) (cap : Nat) (S : Nat -> Prop) (h : HeapIs w hb pb F H) (hpo : PoolAt w pb left) (hle : H.length + left <= 256)
  (hby : ∀ x ∈ t.data, x < 256) (hd : Rd w S 1 A t.data.length (bytesV t.data)) (hS : ∀ k, S k -> ¬ F k /\ k ≠ pb) :
  Calls Tryz.prog 60 #[.pointer (some ⟨hb, 0, none⟩), tupV t A cap] w fun e w' => e = .returned (.tuple #[.agg #[.int .i64 (hIns H left t).1.1, .int .i64 (hIns H left t).1.2.1], .int .i64 (hIns H left t).1.2.2]) /\ Only (fun k => F k ∨ k = pb) w w' /\ PoolAt w' pb (hIns H left t).2.2 /\ HeapIs w' hb pb (fun k => F k ∨ w.heap.size <= k) (hIns H left t).2.1 := by
 rcases ht : t.rightB with _ | _
 ·have e : hIns H left t = ((0, 0, 3), H, left) := by unfold hIns; rw [if_pos ht]
  rw [e]
  refine (heap_insert_form hb t A cap S w ht hby hd).mono ?_
  rintro e w' ⟨rfl, hq⟩
  exact ⟨rfl, hq.mono (fun _ _ x => x.elim), hpo.kept hq (fun x => x), (h.kept hq (fun _ _ x => x)).mono (fun _ x => Or.inl x)⟩
 ·rcases hf : findH H t.data.length with _ | i
  ·rcases left with _ | left
   ·have e : hIns H 0 t = ((0, 0, 12), H, 0) := by unfold hIns; rw [if_neg (by simp [ht]), hf]; rfl
    rw [e]
    refine (heap_insert_full hb pb F H t A cap S w h hpo ht hf hby hd).mono ?_
    rintro e w' ⟨rfl, hq⟩
    exact ⟨rfl, hq.mono (fun _ _ x => x.elim), hpo.kept hq (fun x => x), (h.kept hq (fun _ _ x => x)).mono (fun _ x => Or.inl x)⟩
   ·have e : hIns H (left + 1) t = (((H.length : Int), 0, 0), H ++ [[some t]], left) := by unfold hIns; rw [if_neg (by simp [ht]), hf]; rfl
    rw [e]
    exact heap_insert_grow hb pb left F H t A cap S w h hpo ht hf hle hby hd hS
  ·obtain ⟨T, hT, _⟩ := findH_some hf
   have e : hIns H left t = (((i : Int), (freeT T : Int), 0), H.set i (insT T t), left) := by
    unfold hIns
    rw [if_neg (by simp [ht]), hf]
    show (((i : Int), (freeT (H.getD i []) : Int), (0 : Int)), H.set i (insT (H.getD i []) t), left) = _
    rw [getD_of hT]
   rw [e]
   refine (heap_insert_found hb pb _ H T i t A cap S w (h.lim2 hpo) ht hf hT hby hd).mono ?_
   rintro e w' ⟨rfl, ho, hh⟩
   exact ⟨rfl, ho.mono (fun _ _ x => Or.inl x.1), hpo.kept ho (fun x => x.2.2 rfl), hh.mono (fun _ x => Or.inl x.1)⟩
theorem tid_on {S : Nat -> Prop} {W W' : World} {b : Nat} {pg sl : Int} (h : W.heap[b]? = some (.cells #[.int .i64 pg, .int .i64 sl] 43 (0, 0))) (ho : Only S W W') (hn : ¬ S b) : W'.cell? ⟨b, 0, none⟩ = some (.int .i64 pg) /\ W'.cell? ⟨b, 1, none⟩ = some (.int .i64 sl) := by
 have := ho.get h hn
 exact ⟨by rw [cell_of this]; rfl, by rw [cell_of this]; rfl⟩
set_option maxHeartbeats 400000 in
theorem heap_free_out (hp : Option Addr) (pg sl : Int) (w : World) (hpg : ∀ W : World, Quiet w W -> Calls Tryz.prog 71 #[.pointer hp, .int .i64 pg] W fun e w' => e = .returned (.pointer none) /\ W = w') :
  Calls Tryz.prog 120 #[.pointer hp, .agg #[.int .i64 pg, .int .i64 sl]] w fun e w' => e = .returned (.int .i64 15) /\ Quiet w w' := by
 have HPG := Lib.hid hpg
 have HT := Lib.hid (alloc_new w (.cells #[.int .i64 pg, .int .i64 sl] 43))
 have HQ : Hid (Quiet w (w.alloc (.cells #[.int .i64 pg, .int .i64 sl] 43))) := (Only.refl _ _).alloc _
 clear hpg
 go_enter Tryz.func120, Tryz.ntmps120
 go_wp2_with fail
 go_region_held3 (fun w' => w'.cell? ⟨w.heap.size, 0, none⟩ = some (.int .i64 pg) /\ w'.cell? ⟨w.heap.size, 1, none⟩ = some (.int .i64 sl))
  (first | go_keep | exact tid_on (by exact HT.out) ho3 (fun x => x) | fail)
  (first
    | (go_at_call 71; go_must (refine (HPG.out _ (HQ.out.drew)).mono ?_; rintro e w2 ⟨rfl, rfl⟩))
    | (go_at_call 163; go_must (refine (page_free_nil sl _).mono ?_; rintro e w3 ⟨rfl, ho3⟩))
    | fail)
 go_wp2
 go_ret
 exact ⟨rfl, (HQ.out.drew).trans ho3⟩
set_option maxHeartbeats 400000 in
theorem heap_free_none (k : Nat) (sl : Int) (T : List (Option Tup)) (h : HeapIs w hb pb F H) (hT : H[k]? = some T) (hs : tupAt T sl = none) :
  Calls Tryz.prog 120 #[.pointer (some ⟨hb, 0, none⟩), .agg #[.int .i64 (k : Int), .int .i64 sl]] w fun e w' => e = .returned (.int .i64 15) /\ Quiet w w' := by
 obtain ⟨v, ps, rb, h⟩ := h
 obtain ⟨p, hp, hpt⟩ := h.pg k T hT
 have HQ : Hid (Quiet w (w.alloc (.cells #[.int .i64 (k : Int), .int .i64 sl] 43))) := (Only.refl _ _).alloc _
 have HT := Lib.hid (alloc_new w (.cells #[.int .i64 (k : Int), .int .i64 sl] 43))
 have HPG : Hid (∀ W : World, Quiet w W -> Calls Tryz.prog 71 #[.pointer (some ⟨hb, 0, none⟩), .int .i64 (k : Int)] W fun e w' => e = .returned (.pointer (some ⟨p, 0, none⟩)) /\ W = w') := fun W hq => heap_page_some k p (h.kept hq (fun _ _ x => x)) hp
 have HFR : Hid (∀ W : World, Quiet w W -> Calls Tryz.prog 163 #[.pointer (some ⟨p, 0, none⟩), .int .i64 sl] W fun e w' => e = .returned (.int .i64 15) /\ Quiet W w') := fun W hq => pageT_free_none p T sl W (hpt.kept hq (fun x => x)) hs
 clear h hp hpt hT hs
 go_enter Tryz.func120, Tryz.ntmps120
 go_wp2_with fail
 go_region_held3 (fun w' => w'.cell? ⟨w.heap.size, 0, none⟩ = some (.int .i64 (k : Int)) /\ w'.cell? ⟨w.heap.size, 1, none⟩ = some (.int .i64 sl))
  (first | go_keep | exact tid_on (by exact HT.out) ho3 (fun x => x) | fail)
  (first
    | (go_at_call 71; go_must (refine (HPG.out _ (HQ.out.drew)).mono ?_; rintro e w2 ⟨rfl, rfl⟩))
    | (go_at_call 163; go_must (refine (HFR.out _ (HQ.out.drew)).mono ?_; rintro e w3 ⟨rfl, ho3⟩))
    | fail)
 go_wp2
 go_ret
 exact ⟨rfl, (HQ.out.drew).trans ho3⟩
set_option maxHeartbeats 400000 in
theorem heap_free_some (k : Nat) (sl : Int) (T : List (Option Tup)) (t : Tup) (h : HeapIs w hb pb F H) (hT : H[k]? = some T) (hs : tupAt T sl = some t) :
  Calls Tryz.prog 120 #[.pointer (some ⟨hb, 0, none⟩), .agg #[.int .i64 (k : Int), .int .i64 sl]] w fun e w' => e = .returned (.int .i64 0) /\ Only F w w' /\ HeapIs w' hb pb F (H.set k (trimT (T.set sl.toNat none))) := by
 have h256 := h.most
 obtain ⟨v, ps, rb, h⟩ := h.lim
 obtain ⟨p, hp, hpt⟩ := h.pg k T hT
 have hkl : k < H.length := (List.getElem?_eq_some_iff.1 hT).1
 have HQ : Hid (Quiet w (w.alloc (.cells #[.int .i64 (k : Int), .int .i64 sl] 43))) := (Only.refl _ _).alloc _
 have HT := Lib.hid (alloc_new w (.cells #[.int .i64 (k : Int), .int .i64 sl] 43))
 have HPG : Hid (∀ W : World, Quiet w W -> Calls Tryz.prog 71 #[.pointer (some ⟨hb, 0, none⟩), .int .i64 (k : Int)] W fun e w' => e = .returned (.pointer (some ⟨p, 0, none⟩)) /\ W = w') := fun W hq => heap_page_some k p (h.kept hq (fun _ _ x => x)) hp
 have HFR : Hid (∀ W : World, Quiet w W -> Calls Tryz.prog 163 #[.pointer (some ⟨p, 0, none⟩), .int .i64 sl] W fun e w' => e = .returned (.int .i64 0) /\ Only (· = p) W w' /\ PageT w' p (trimT (T.set sl.toNat none))) := fun W hq => pageT_free_some p t T sl W (hpt.kept hq (fun x => x)) hs
 have HH := Lib.hid h
 have HHP := Lib.hid hp
 have HPL : Hid (p < w.heap.size) := hpt.lt
 clear h hp hpt hT hs
 go_enter Tryz.func120, Tryz.ntmps120
 go_wp2_with fail
 go_region_held3 (fun w' => w'.cell? ⟨w.heap.size, 0, none⟩ = some (.int .i64 (k : Int)) /\ w'.cell? ⟨w.heap.size, 1, none⟩ = some (.int .i64 sl))
  (first | go_keep | exact tid_on (by exact HT.out) ho3 (by have := HPL.out; omega) | fail)
  (first
    | (go_at_call 71; go_must (refine (HPG.out _ (HQ.out.drew)).mono ?_; rintro e w2 ⟨rfl, rfl⟩))
    | (go_at_call 163; go_must (refine (HFR.out _ (HQ.out.drew)).mono ?_; rintro e w3 ⟨rfl, ho3, hp3⟩))
    | fail)
 have HH3 := Lib.hid ((HH.out.kept HQ.out.drew (fun _ _ x => x)).turn HHP.out ho3 hp3)
 have HO3 : Hid (Only F w w3) := ((HQ.out.drew).mono (T := F) (fun _ _ x => x.elim)).trans' ho3 (fun j _ e => by subst e; exact (HH.out.foot.2.2.1 j (List.mem_of_getElem? HHP.out)).1)
 obtain ⟨t0, t1⟩ := tid_on (by exact HT.out) ho3 (by have := HPL.out; omega)
 clear ho3 hp3 HPG HFR
 go_wp2_with fail
 refine (heap_told k p _ HH3.out HHP.out (by rw [List.getElem?_set_self hkl]) (by simp; omega) (by omega)).mono ?_
 rintro e w5 ⟨rfl, ho5, hh5⟩
 rw [set_rooms H k _ hkl] at hh5
 have HH5 := Lib.hid hh5
 have HO5 : Hid (Only F w w5) := HO3.out.trans' ho5 (fun j _ e => by subst e; exact HH.out.foot.2.1.1)
 clear ho5 hh5
 go_wp2
 go_ret
 exact ⟨rfl, HO5.out, _, _, _, HH5.out.mono (fun _ x => x.1)⟩
theorem heap_free (pg sl : Int) (h : HeapIs w hb pb F H) :
  Calls Tryz.prog 120 #[.pointer (some ⟨hb, 0, none⟩), .agg #[.int .i64 pg, .int .i64 sl]] w fun e w' => e = .returned (.int .i64 (hFree H pg sl).1) /\ Only F w w' /\ HeapIs w' hb pb F (hFree H pg sl).2 := by
 by_cases hn : pg < 0 ∨ (H.length : Int) <= pg
 ·have e : hFree H pg sl = (15, H) := by unfold hFree; rw [hGet_out hn]
  rw [e]
  refine (heap_free_out (some ⟨hb, 0, none⟩) pg sl w (fun W hq => ?_)).mono ?_
  ·obtain ⟨v, ps, rb, h⟩ := h
   exact heap_page_none pg (h.kept hq (fun _ _ x => x)) hn
  ·rintro e w' ⟨rfl, hq⟩
   exact ⟨rfl, hq.mono (fun _ _ x => x.elim), h.kept hq (fun _ _ x => x)⟩
 ·obtain ⟨k, rfl⟩ := Int.eq_ofNat_of_zero_le (show 0 <= pg by omega)
  have hT : H[k]? = some (H.getD k []) := by
   rw [List.getD_eq_getElem?_getD, List.getElem?_eq_getElem (show k < H.length by omega)]; rfl
  have hg := hGet_in sl hT
  rcases hs : tupAt (H.getD k []) sl with _ | t
  ·have e : hFree H (k : Int) sl = (15, H) := by unfold hFree; rw [hg, hs]
   rw [e]
   refine (heap_free_none k sl _ h hT hs).mono ?_
   rintro e w' ⟨rfl, hq⟩
   exact ⟨rfl, hq.mono (fun _ _ x => x.elim), h.kept hq (fun _ _ x => x)⟩
  ·have e : hFree H (k : Int) sl = (0, H.set k (trimT ((H.getD k []).set sl.toNat none))) := by unfold hFree; rw [hg, hs]; rfl
   rw [e]
   exact heap_free_some k sl _ t h hT hs
end
end Go.Proofs.YthipgglplneijaaGreatDoor
namespace Go.Lap
theorem trimT_some (T : List (Option Tup)) (t : Tup) : trimT (T ++ [some t]) = T ++ [some t] := by simp [trimT]
theorem trimT_none (T : List (Option Tup)) : trimT (T ++ [none]) = trimT T := by simp [trimT]
end Go.Lap
namespace Go.Lap
end Go.Lap
namespace Go.Proofs.YthipgglplneijaaGreatDoor
open Go.RowKit Go.Lap
section
variable {w W W' : World} {K K' : Nat -> Prop} {hb pb : Nat} {H : List (List (Option Tup))} {left : Nat}
end
end Go.Proofs.YthipgglplneijaaGreatDoor
namespace Go.Lap
theorem tupAt_nat (T : List (Option Tup)) (n : Nat) : tupAt T (n : Int) = (T[n]?).join := by
 unfold tupAt
 rw [if_neg (by omega), Int.toNat_natCast]
theorem tupAt_neg (T : List (Option Tup)) {i : Int} (h : i < 0) : tupAt T i = none := by
 unfold tupAt
 rw [if_pos h]
theorem freeT_le (T : List (Option Tup)) : freeT T <= T.length := by
 unfold freeT
 rcases h : T.findIdx? (fun s => s.isNone) with _ | i
 ·rw [h]; exact Nat.le_refl _
 ·rw [h]
  rw [List.findIdx?_eq_some_iff_getElem] at h
  obtain ⟨hi, _⟩ := h
  exact Nat.le_of_lt hi
theorem freeT_least {T : List (Option Tup)} {i : Nat} (h : T[i]? = some none) : freeT T <= i := by
 unfold freeT
 rcases hf : T.findIdx? (fun s => s.isNone) with _ | j
 ·rw [List.findIdx?_eq_none_iff] at hf
  have := hf none (List.mem_of_getElem? h)
  simp at this
 ·rw [hf]
  rw [List.findIdx?_eq_some_iff_getElem] at hf
  obtain ⟨hj, _, h2⟩ := hf
  show j <= i
  rcases Nat.lt_or_ge i j with x | x
  ·have hi : i < T.length := (List.getElem?_eq_some_iff.1 h).1
   have := h2 i x
   rw [List.getElem?_eq_getElem hi] at h
   injection h with h
   rw [h] at this
   simp at this
  ·exact x
theorem freeT_none (T : List (Option Tup)) : (T[freeT T]?).join = none := by
 unfold freeT
 rcases h : T.findIdx? (fun s => s.isNone) with _ | i
 ·rw [h]
  show (T[T.length]?).join = none
  rw [List.getElem?_eq_none (Nat.le_refl _)]
  rfl
 ·rw [h]
  rw [List.findIdx?_eq_some_iff_getElem] at h
  obtain ⟨hi, h1, _⟩ := h
  show (T[i]?).join = none
  rw [List.getElem?_eq_getElem hi]
  have : T[i] = none := by simpa using h1
  rw [this]
  rfl
theorem tupAt_ins (T : List (Option Tup)) (t : Tup) (s : Int) : tupAt (insT T t) s = if s = freeT T then some t else tupAt T s := by
 have hf := freeT_le T
 rcases Int.lt_or_le s 0 with h | h
 ·rw [tupAt_neg _ h, tupAt_neg _ h, if_neg (by omega)]
 ·obtain ⟨n, rfl⟩ := Int.eq_ofNat_of_zero_le h
  rw [tupAt_nat, tupAt_nat]
  unfold insT
  by_cases e : freeT T = T.length
  ·rw [if_pos e, e]
   by_cases x : n = T.length
   ·subst x
    rw [if_pos rfl]
    simp
   ·rw [if_neg (by omega)]
    rcases Nat.lt_or_ge n T.length with y | y
    ·rw [List.getElem?_append_left y]
    ·rw [List.getElem?_eq_none (by simp; omega), List.getElem?_eq_none y]
  ·rw [if_neg e, List.getElem?_set]
   by_cases x : freeT T = n
   ·rw [if_pos x, if_pos (by omega), if_pos (by omega)]
    rfl
   ·rw [if_neg x, if_neg (by omega)]
theorem tupAt_set (T : List (Option Tup)) (i : Nat) (hi : i < T.length) (u : Option Tup) (s : Int) : tupAt (T.set i u) s = if s = i then u else tupAt T s := by
 rcases Int.lt_or_le s 0 with h | h
 ·rw [tupAt_neg _ h, tupAt_neg _ h, if_neg (by omega)]
 ·obtain ⟨n, rfl⟩ := Int.eq_ofNat_of_zero_le h
  rw [tupAt_nat, tupAt_nat, List.getElem?_set]
  by_cases x : i = n
  ·rw [if_pos x, if_pos hi, if_pos (by omega)]
   rfl
  ·rw [if_neg x, if_neg (by omega)]
theorem trim_spec (T : List (Option Tup)) : ∃ k, T = trimT T ++ List.replicate k none := by
 induction hn : T.length generalizing T with
 | zero =>
  have : T = [] := List.eq_nil_of_length_eq_zero hn
  subst this
  exact ⟨0, rfl⟩
 | succ n ih =>
  have hne : T ≠ [] := fun e => by subst e; simp at hn
  obtain ⟨M, s, rfl⟩ : ∃ M s, T = M ++ [s] := ⟨T.dropLast, T.getLast hne, (List.dropLast_concat_getLast hne).symm⟩
  have hM : M.length = n := by simpa using hn
  rcases s with _ | t
  ·obtain ⟨k, hk⟩ := ih M hM
   refine ⟨k + 1, ?_⟩
   rw [trimT_none, List.replicate_succ', <- List.append_assoc, <- hk]
  ·exact ⟨0, by rw [trimT_some]; simp⟩
theorem tupAt_trim (T : List (Option Tup)) (s : Int) : tupAt (trimT T) s = tupAt T s := by
 obtain ⟨k, hk⟩ := trim_spec T
 rcases Int.lt_or_le s 0 with h | h
 ·rw [tupAt_neg _ h, tupAt_neg _ h]
 ·obtain ⟨n, rfl⟩ := Int.eq_ofNat_of_zero_le h
  rw [tupAt_nat, tupAt_nat]
  conv => rhs; rw [hk]
  rcases Nat.lt_or_ge n (trimT T).length with x | x
  ·rw [List.getElem?_append_left x]
  ·rw [List.getElem?_eq_none x, List.getElem?_append_right x, List.getElem?_replicate]
   split <;> rfl
theorem used_append (A B : List (Option Tup)) : usedT (A ++ B) = usedT A + usedT B := by simp [usedT]
theorem used_none (k : Nat) : usedT (List.replicate k none) = 0 := by simp [usedT]
theorem used_trim (T : List (Option Tup)) : usedT (trimT T) = usedT T := by
 obtain ⟨k, hk⟩ := trim_spec T
 conv => rhs; rw [hk]
 rw [used_append, used_none, Nat.add_zero]
theorem used_as_sum (T : List (Option Tup)) : usedT T = (T.map (fun s => if s.isSome then 1 else 0)).sum := by
 induction T with
 | nil => rfl
 | cons s T ih =>
  rw [List.map_cons, List.sum_cons, <- ih]
  rcases s with _ | t
  ·simp [usedT]
  ·simp [usedT]; omega
theorem sum_set {α : Type} (f : α -> Nat) (T : List α) (i : Nat) (a b : α) (h : T[i]? = some a) : ((T.set i b).map f).sum + f a = (T.map f).sum + f b := by
 induction T generalizing i with
 | nil => simp at h
 | cons x T ih =>
  rcases i with _ | i
  ·simp at h
   subst h
   simp
   omega
  ·rw [List.getElem?_cons_succ] at h
   have := ih i h
   simp only [List.set_cons_succ, List.map_cons, List.sum_cons]
   omega
theorem used_set {T : List (Option Tup)} {i : Nat} {s u : Option Tup} (h : T[i]? = some s) : usedT (T.set i u) + (if s.isSome then 1 else 0) = usedT T + (if u.isSome then 1 else 0) := by
 rw [used_as_sum, used_as_sum]
 exact sum_set _ T i s u h
theorem free_get {T : List (Option Tup)} (h : ¬ freeT T = T.length) : T[freeT T]? = some none := by
 have hl := freeT_le T
 have := freeT_none T
 rw [List.getElem?_eq_getElem (show freeT T < T.length by omega)] at this ⊢
 have h2 : T[freeT T] = none := this
 rw [h2]
theorem used_ins (T : List (Option Tup)) (t : Tup) : usedT (insT T t) = usedT T + 1 := by
 unfold insT
 by_cases e : freeT T = T.length
 ·rw [if_pos e, used_append]; rfl
 ·rw [if_neg e]
  have := used_set (u := some t) (free_get e)
  simpa using this
def Fits (T : List (Option Tup)) : Prop := 4 + 4 * T.length + (T.map sizeT).sum <= 512
theorem ins_length (T : List (Option Tup)) (t : Tup) : (insT T t).length = max T.length (freeT T + 1) := by
 have := freeT_le T
 unfold insT
 by_cases e : freeT T = T.length
 ·rw [if_pos e]; simp; omega
 ·rw [if_neg e]; simp; omega
theorem ins_sizes (T : List (Option Tup)) (t : Tup) : ((insT T t).map sizeT).sum = (T.map sizeT).sum + t.size := by
 unfold insT
 by_cases e : freeT T = T.length
 ·rw [if_pos e]; simp [sizeT]
 ·rw [if_neg e]
  have := sum_set sizeT T _ _ (some t) (free_get e)
  simpa [sizeT] using this
theorem Fits.ins {T : List (Option Tup)} {t : Tup} (hr : (t.data.length : Int) <= roomT T) : Fits (insT T t) := by
 have := (room_iff T t.data.length).1 (by omega)
 unfold Fits
 rw [ins_length, ins_sizes]
 have : t.size = 30 + t.data.length := rfl
 omega
theorem trim_sizes (T : List (Option Tup)) : ((trimT T).map sizeT).sum = (T.map sizeT).sum := by
 obtain ⟨k, hk⟩ := trim_spec T
 conv => rhs; rw [hk]
 simp [sizeT]
theorem trim_length (T : List (Option Tup)) : (trimT T).length <= T.length := by
 obtain ⟨k, hk⟩ := trim_spec T
 have := congrArg List.length hk
 simp at this
 omega
theorem free_sizes {T : List (Option Tup)} {i : Nat} {t : Tup} (h : T[i]? = some (some t)) : ((trimT (T.set i none)).map sizeT).sum + t.size = (T.map sizeT).sum := by
 rw [trim_sizes]
 have := sum_set sizeT T i _ none h
 simpa [sizeT] using this
theorem free_len (T : List (Option Tup)) (i : Nat) (hi : i < T.length) : max (trimT (T.set i none)).length (freeT (trimT (T.set i none)) + 1) <= T.length := by
 have h1 := trim_length (T.set i none)
 rw [List.length_set] at h1
 have h2 := freeT_le (trimT (T.set i none))
 rcases Nat.lt_or_ge i (trimT (T.set i none)).length with x | x
 ·have : (trimT (T.set i none))[i]? = some none := by
   have h3 := tupAt_trim (T.set i none) i
   rw [tupAt_set T i hi, if_pos rfl, tupAt_nat] at h3
   rw [List.getElem?_eq_getElem x] at h3 ⊢
   have h4 : (trimT (T.set i none))[i] = none := h3
   rw [h4]
  have := freeT_least this
  omega
 ·omega
theorem Fits.free {T : List (Option Tup)} {i : Nat} {t : Tup} (hf : Fits T) (h : T[i]? = some (some t)) : Fits (trimT (T.set i none)) /\ (t.data.length : Int) <= roomT (trimT (T.set i none)) := by
 have hi : i < T.length := (List.getElem?_eq_some_iff.1 h).1
 have h1 := free_sizes h
 have h2 := free_len T i hi
 have h3 : t.size = 30 + t.data.length := rfl
 unfold Fits at hf ⊢
 refine ⟨by omega, ?_⟩
 have := (room_iff (trimT (T.set i none)) t.data.length).2 (by omega)
 omega
theorem hGet_nat (H : List (List (Option Tup))) (n : Nat) (s : Int) : hGet H (n : Int) s = tupAt (H.getD n []) s := by
 unfold hGet
 rw [if_neg (by omega), Int.toNat_natCast]
theorem hGet_set (H : List (List (Option Tup))) (i : Nat) (hi : i < H.length) (T : List (Option Tup)) (p s : Int) : hGet (H.set i T) p s = if p = i then tupAt T s else hGet H p s := by
 rcases Int.lt_or_le p 0 with h | h
 ·rw [hGet_out (Or.inl h), hGet_out (Or.inl h), if_neg (by omega)]
 ·obtain ⟨n, rfl⟩ := Int.eq_ofNat_of_zero_le h
  rw [hGet_nat, hGet_nat, List.getD_eq_getElem?_getD, List.getElem?_set]
  by_cases x : i = n
  ·rw [if_pos x, if_pos hi, if_pos (by omega)]; rfl
  ·rw [if_neg x, if_neg (by omega), List.getD_eq_getElem?_getD]
theorem hGet_push (H : List (List (Option Tup))) (T : List (Option Tup)) (p s : Int) : hGet (H ++ [T]) p s = if p = H.length then tupAt T s else hGet H p s := by
 rcases Int.lt_or_le p 0 with h | h
 ·rw [hGet_out (Or.inl h), hGet_out (Or.inl h), if_neg (by omega)]
 ·obtain ⟨n, rfl⟩ := Int.eq_ofNat_of_zero_le h
  by_cases x : n = H.length
  ·subst x
   rw [if_pos rfl]
   exact hGet_in s (by simp)
  ·rw [if_neg (by omega)]
   rcases Nat.lt_or_ge n H.length with y | y
   ·rw [hGet_in s (T := H[n]) (by rw [List.getElem?_append_left y, List.getElem?_eq_getElem y]), hGet_in s (List.getElem?_eq_getElem y)]
   ·rw [hGet_out (Or.inr (by simp; omega)), hGet_out (Or.inr (by omega))]
end Go.Lap
namespace Go.Proofs.YthipgglplneijaaGreatDoor
open Go.RowKit Go.Lap
theorem usedH_set {H : List (List (Option Tup))} {i : Nat} {T T' : List (Option Tup)} (h : H[i]? = some T) : usedH (H.set i T') + usedT T = usedH H + usedT T' := sum_set usedT H i T T' h
theorem tupAt_one (t : Tup) (s : Int) : tupAt [some t] s = if s = 0 then some t else none := by
 rcases Int.lt_or_le s 0 with h | h
 ·rw [tupAt_neg _ h, if_neg (by omega)]
 ·obtain ⟨n, rfl⟩ := Int.eq_ofNat_of_zero_le h
  rw [tupAt_nat]
  rcases n with _ | n
  ·rfl
  ·rw [if_neg (by omega)]; rfl
structure InsAt (H H' : List (List (Option Tup))) (pg sl : Int) (t : Tup) : Prop where
 get : ∀ p s, hGet H' p s = if p = pg /\ s = sl then some t else hGet H p s
 was : hGet H pg sl = none
 used : usedH H' = usedH H + 1
 fit : ∀ T ∈ H', Fits T
 pos : 0 <= pg /\ 0 <= sl
 len : H'.length <= H.length + 1
theorem hIns_some {H : List (List (Option Tup))} {left i : Nat} {t : Tup} {T : List (Option Tup)} (hr : t.rightB = true) (hf : findH H t.data.length = some i) (hT : H[i]? = some T) : hIns H left t = (((i : Int), (freeT T : Int), 0), H.set i (insT T t), left) := by
 unfold hIns
 rw [if_neg (by simp [hr]), hf]
 show (((i : Int), (freeT (H.getD i []) : Int), (0 : Int)), H.set i (insT (H.getD i []) t), left) = _
 rw [getD_of hT]
theorem hIns_none {H : List (List (Option Tup))} {left : Nat} {t : Tup} (hr : t.rightB = true) (hf : findH H t.data.length = none) : hIns H (left + 1) t = (((H.length : Int), 0, 0), H ++ [[some t]], left) := by
 unfold hIns
 rw [if_neg (by simp [hr]), hf]
 rfl
theorem right_len {t : Tup} (hr : t.rightB = true) : t.data.length <= 200 := (of_decide_eq_true hr).2.2.2.2
theorem insAt_some {H : List (List (Option Tup))} {i : Nat} {t : Tup} {T : List (Option Tup)} (hfit : ∀ T ∈ H, Fits T) (hT : H[i]? = some T) (hrm : (t.data.length : Int) <= roomT T) : InsAt H (H.set i (insT T t)) (i : Int) (freeT T : Int) t := by
 have hi : i < H.length := (List.getElem?_eq_some_iff.1 hT).1
 refine ⟨fun p s => ?_, ?_, ?_, fun T' hT' => ?_, ⟨by omega, by omega⟩, by simp⟩
 ·rw [hGet_set H i hi, tupAt_ins]
  by_cases x : p = i
  ·subst x
   rw [if_pos rfl]
   by_cases y : s = freeT T
   ·rw [if_pos y, if_pos ⟨rfl, y⟩]
   ·rw [if_neg y, if_neg (fun z => y z.2), hGet_in s hT]
  ·rw [if_neg x, if_neg (fun z => x z.1)]
 ·rw [hGet_in _ hT, tupAt_nat]
  exact freeT_none T
 ·have := usedH_set (T' := insT T t) hT
  rw [used_ins] at this
  omega
 ·rcases List.mem_or_eq_of_mem_set hT' with x | x
  ·exact hfit T' x
  ·rw [x]; exact Fits.ins hrm
theorem insAt_none {H : List (List (Option Tup))} {t : Tup} (hfit : ∀ T ∈ H, Fits T) (hr : t.rightB = true) : InsAt H (H ++ [[some t]]) (H.length : Int) 0 t := by
 refine ⟨fun p s => ?_, hGet_out (Or.inr (Int.le_refl _)), ?_, fun T' hT' => ?_, ⟨by omega, by omega⟩, by simp⟩
 ·rw [hGet_push, tupAt_one]
  by_cases x : p = H.length
  ·subst x
   rw [if_pos rfl]
   by_cases y : s = 0
   ·rw [if_pos y, if_pos ⟨rfl, y⟩]
   ·rw [if_neg y, if_neg (fun z => y z.2), hGet_out (Or.inr (Int.le_refl _))]
  ·rw [if_neg x, if_neg (fun z => x z.1)]
 ·unfold usedH
  rw [List.map_append, List.sum_append]
  rfl
 ·rcases List.mem_append.1 hT' with x | x
  ·exact hfit T' x
  ·simp at x
   subst x
   have := right_len hr
   unfold Fits
   simp [sizeT, Tup.size]
   omega
theorem hIns_goes {H : List (List (Option Tup))} {left : Nat} {t : Tup} (hfit : ∀ T ∈ H, Fits T) (hr : t.rightB = true) (h : 0 < left ∨ (findH H t.data.length).isSome = true) :
  ∃ pg sl H' left', hIns H left t = ((pg, sl, 0), H', left') /\ InsAt H H' pg sl t /\ ((findH H t.data.length).isSome = true -> H'.length = H.length /\ left' = left) /\ H'.length + left' = H.length + left := by
 rcases hf : findH H t.data.length with _ | i
 ·rw [hf] at h
  obtain ⟨left, rfl⟩ : ∃ l, left = l + 1 := ⟨left - 1, by rcases h with h | h; omega; simp at h⟩
  exact ⟨_, _, _, _, hIns_none hr hf, insAt_none hfit hr, fun x => by simp at x, by simp; omega⟩
 ·obtain ⟨T, hT, hrm⟩ := findH_some hf
  exact ⟨_, _, _, _, hIns_some hr hf hT, insAt_some hfit hT hrm, fun _ => ⟨by simp, rfl⟩, by simp⟩
structure FreeAt (H H' : List (List (Option Tup))) (pg sl : Int) (t : Tup) : Prop where
 get : ∀ p s, hGet H' p s = if p = pg /\ s = sl then none else hGet H p s
 used : usedH H' + 1 = usedH H
 fit : ∀ T ∈ H', Fits T
 len : H'.length = H.length
 room : (findH H' t.data.length).isSome = true
theorem hFree_goes {H : List (List (Option Tup))} {pg sl : Int} {t : Tup} (hfit : ∀ T ∈ H, Fits T) (h : hGet H pg sl = some t) : ∃ H', hFree H pg sl = (0, H') /\ FreeAt H H' pg sl t := by
 have h0 : ¬ (pg < 0 ∨ (H.length : Int) <= pg) := fun x => by rw [hGet_out x] at h; cases h
 obtain ⟨k, rfl⟩ := Int.eq_ofNat_of_zero_le (show 0 <= pg by omega)
 have hk : k < H.length := by omega
 obtain ⟨T, hT⟩ : ∃ T, H[k]? = some T := ⟨_, List.getElem?_eq_getElem hk⟩
 have hg : tupAt T sl = some t := by rw [<- hGet_in sl hT]; exact h
 obtain ⟨s0, hs⟩ := tupAt_some hg
 obtain ⟨j, rfl⟩ := Int.eq_ofNat_of_zero_le s0
 rw [Int.toNat_natCast] at hs
 have hj : j < T.length := (List.getElem?_eq_some_iff.1 hs).1
 have hF := Fits.free (hfit T (List.mem_of_getElem? hT)) hs
 refine ⟨H.set k (trimT (T.set j none)), ?_, fun p s => ?_, ?_, fun T' hT' => ?_, by simp, ?_⟩
 ·unfold hFree
  rw [h]
  show ((0 : Int), H.set (k : Int).toNat (trimT ((H.getD (k : Int).toNat []).set (j : Int).toNat none))) = _
  rw [Int.toNat_natCast, Int.toNat_natCast, getD_of hT]
 ·rw [hGet_set H k hk, tupAt_trim, tupAt_set T j hj]
  by_cases x : p = k
  ·subst x
   rw [if_pos rfl]
   by_cases y : s = j
   ·rw [if_pos y, if_pos ⟨rfl, y⟩]
   ·rw [if_neg y, if_neg (fun z => y z.2), hGet_in s hT]
  ·rw [if_neg x, if_neg (fun z => x z.1)]
 ·have h1 := usedH_set (T' := trimT (T.set j none)) hT
  rw [used_trim] at h1
  have h2 := used_set (u := none) hs
  simp at h2
  omega
 ·rcases List.mem_or_eq_of_mem_set hT' with x | x
  ·exact hfit T' x
  ·rw [x]; exact hF.1
 ·unfold findH
  rcases hx : (H.set k (trimT (T.set j none))).findIdx? (fun T => decide ((t.data.length : Int) <= roomT T)) with _ | i
  ·rw [List.findIdx?_eq_none_iff] at hx
   have := hx (trimT (T.set j none)) (by
     rw [List.mem_iff_getElem?]
     exact ⟨k, by rw [List.getElem?_set_self hk]⟩)
   rw [decide_eq_false_iff_not] at this
   exact absurd hF.2 this
  ·rfl
structure Inv (H : List (List (Option Tup))) (l : List ((Int × Int) × Tup)) : Prop where
 used : usedH H = l.length
 nd : (l.map (·.1)).Nodup
 got : ∀ x ∈ l, hGet H x.1.1 x.1.2 = some x.2
 fit : ∀ T ∈ H, Fits T
theorem Inv.start : Inv [] [] := ⟨rfl, List.nodup_nil, fun x hx => by simp at hx, fun T hT => by simp at hT⟩
theorem Inv.ins {H H' : List (List (Option Tup))} {l : List ((Int × Int) × Tup)} {pg sl : Int} {t : Tup} (h : Inv H l) (hi : InsAt H H' pg sl t) : Inv H' (l ++ [((pg, sl), t)]) := by
 have hne : ∀ x ∈ l, x.1 ≠ (pg, sl) := fun x hx e => by
  have := h.got x hx
  rw [e, hi.was] at this
  cases this
 refine ⟨by rw [hi.used, h.used]; simp, ?_, fun x hx => ?_, hi.fit⟩
 ·rw [List.map_append, List.nodup_append]
  refine ⟨h.nd, by simp, fun a ha b hb => ?_⟩
  obtain ⟨x, hx, rfl⟩ := List.mem_map.1 ha
  simp at hb
  subst hb
  exact hne x hx
 ·rw [hi.get]
  rcases List.mem_append.1 hx with y | y
  ·rw [if_neg (fun z => hne x y (by rw [<- z.1, <- z.2]))]
   exact h.got x y
  ·simp at y
   subst y
   rw [if_pos ⟨rfl, rfl⟩]
end Go.Proofs.YthipgglplneijaaGreatDoor
namespace Go.Lap
open Go.Sort Go.Proofs Go.Shelf Go.RowKit
theorem flat_get {α : Type} {k : Nat} {rows : List (List α)} (h : ∀ r ∈ rows, r.length = k) {i j : Nat} {r : List α} (hi : rows[i]? = some r) (hj : j < k) : rows.flatten[i * k + j]? = r[j]? := by
 induction rows generalizing i with
 | nil => simp at hi
 | cons x rows ih =>
  have hx : x.length = k := h x (by simp)
  rw [List.flatten_cons]
  rcases i with _ | i
  ·simp at hi
   subst hi
   rw [Nat.zero_mul, Nat.zero_add, List.getElem?_append_left (by omega)]
  ·rw [List.getElem?_cons_succ] at hi
   rw [List.getElem?_append_right (by rw [hx, Nat.add_mul]; omega), hx, show (i + 1) * k + j - k = i * k + j by rw [Nat.add_mul]; omega]
   exact ih (fun r hr => h r (by simp [hr])) hi
theorem flat_length {α : Type} {k : Nat} {rows : List (List α)} (h : ∀ r ∈ rows, r.length = k) : rows.flatten.length = rows.length * k := by
 induction rows with
 | nil => simp
 | cons x rows ih =>
  rw [List.flatten_cons, List.length_append, h x (by simp), ih (fun r hr => h r (by simp [hr])), List.length_cons, Nat.add_mul]
  omega
theorem flatK_toList {α : Type} [Inhabited α] (enc : α -> List Value) (k : Nat) (hk : ∀ x, (enc x).length = k) (l : List α) : (flatK enc k l.toArray).toList = l.flatMap enc := by
 apply List.ext_getElem?
 intro t
 have hrows : ∀ r ∈ l.map enc, r.length = k := fun r hr => by
  obtain ⟨x, _, rfl⟩ := List.mem_map.1 hr
  exact hk x
 have hfl : (l.flatMap enc).length = l.length * k := by
  rw [List.flatMap_def, flat_length hrows, List.length_map]
 by_cases ht : t < l.length * k
 ·have k0 : 0 < k := by
   rcases Nat.eq_zero_or_pos k with h | h
   ·subst h; simp at ht
   ·exact h
  have hd : t / k < l.length := by rw [Nat.div_lt_iff_lt_mul k0]; exact ht
  have hm : t % k < k := Nat.mod_lt _ k0
  have e : t / k * k + t % k = t := by rw [Nat.mul_comm]; exact Nat.div_add_mod t k
  have h1 := flat_get hrows (i := t / k) (j := t % k) (r := enc l[t / k]) (by rw [List.getElem?_map, List.getElem?_eq_getElem hd]; rfl) hm
  rw [e, <- List.flatMap_def] at h1
  rw [h1, Array.getElem?_toList, Array.getElem?_eq_getElem (by simpa using ht)]
  have hg := get_flatK enc k l.toArray t (by simpa using ht)
  rw [getElem!_pos _ _ (by simpa using ht)] at hg
  rw [hg]
  have hh : l.toArray[t / k]! = l[t / k] := by
   rw [getElem!_pos _ _ (by simpa using hd)]
   simp
  rw [hh, getElem!_pos _ _ (by rw [hk]; exact hm), List.getElem?_eq_getElem (by rw [hk]; exact hm)]
 ·rw [List.getElem?_eq_none (by simp; omega), List.getElem?_eq_none (by rw [hfl]; omega)]
theorem flatMap_len {α : Type} {enc : α -> List Value} {k : Nat} (hk : ∀ x, (enc x).length = k) (l : List α) : (l.flatMap enc).length = l.length * k := by
 rw [List.flatMap_def, flat_length (fun r hr => by obtain ⟨x, _, rfl⟩ := List.mem_map.1 hr; exact hk x), List.length_map]
theorem putCells_take {cur F : Array Value} (h : F.size <= cur.size) : (putCells id 0 F cur).toList.take F.size = F.toList := by
 apply List.ext_getElem?
 intro j
 by_cases hj : j < F.size
 ·rw [List.getElem?_take_of_lt hj, Array.getElem?_toList, Array.getElem?_toList]
  simp [putCells, hj, show j < cur.size by omega]
 ·rw [List.getElem?_take_eq_none (by omega), List.getElem?_eq_none (by simp; omega)]
section
variable {P : Program} {ρ : Ren} {α : Type} [Inhabited α]
theorem sort_own (L : SlLaysF0.n6 P ρ) (k : Nat) (aE : ∀ w, (isAgg (ρ.t 24)).run P w = .ok true w) (zE : ∀ w, (Go.sizeOf (ρ.t 24)).run P w = .ok k w) (enc : α -> List Value) (hk : ∀ x, (enc x).length = k)
  (h1 : ∀ x, ∀ v ∈ enc x, v.oneCell' = true) (cf : α -> α -> Int) (hO : SWO (ltOf cf)) (g : Nat) (eg : ∀ args w, (callFunc g args).run P w = .ok (.enter g args) w)
  (hcl : ∀ x y W, Calls P g #[.agg (enc x).toArray, .agg (enc y).toArray] W fun e w' => e = .returned (.int .i64 (cf x y)) /\ ∃ q os', w' = grow (W.drewN q) os')
  (e : TypeId) (v : Value) (l : List α) (w : World) (hown : w.ownsRow 0 e k v l.length (l.flatMap enc)) (hl : l.length < 4611686018427387904) :
  Calls P (ρ.f 6) #[v, .func (.func g) #[] #[]] w fun e' w' => e' = .returned (.tuple #[]) /\ ∃ l' : List α, l'.Perm l /\ l'.Pairwise (fun a b => ltOf cf b a = false) /\ w'.ownsRow 0 e k v l.length (l'.flatMap enc) /\ Only (fun k => v.ownBlock = some k) w w' := by
 rcases hown.2 with ⟨rfl, h0⟩ | ⟨b, cap, cur, rfl, _, hb, hc1, hc2, hc3, hc4⟩
 ·have hl0 : l = [] := List.eq_nil_of_length_eq_zero h0
  subst hl0
  refine (AnyF.slices_SortFunc_none L none 0 (.func (.func g) #[] #[]) w).mono ?_
  rintro e' w' ⟨rfl, rfl⟩
  exact ⟨rfl, [], List.Perm.refl _, List.Pairwise.nil, hown, Only.refl _ _⟩
 ·have hblk := lt_of_get hb
  have hH : HoldsK enc k w b 0 l.toArray := by
   intro j hj
   have hj' : j < l.length * k := by simpa using hj
   refine ⟨?_, frozen_of hb _⟩
   rw [Nat.zero_add, cell_of hb]
   have h2 : (l.flatMap enc)[j]? = cur[j]? := by rw [<- hc4, List.getElem?_take_of_lt hj', Array.getElem?_toList]
   rw [<- h2, <- flatK_toList enc k hk, Array.getElem?_toList, Array.getElem?_eq_getElem hj, getElem!_pos (flatK enc k l.toArray) j hj]
   rfl
  have hs : l.toArray.size = l.length := rfl
  have hcall := AnyQ.slices_SortFunc L k aE zE enc hk h1 cf hO g #[] b 0 cap l.toArray w eg (fun _ _ _ _ x y => hcl x y _) hH hblk (by rw [hs]; exact hl)
  rw [hs] at hcall
  refine hcall.mono ?_
  rintro e' w' ⟨rfl, d', n, os, hp, hsd, rfl⟩
  obtain ⟨p1, _, p3⟩ := hp
  have hd' : d'.size = l.length := p1
  have hperm : d'.toList.Perm l := by
   rw [show l.length = d'.size from hd'.symm] at p3
   have h5 : (d'.extract 0 d'.size).toList = d'.toList := by simp
   have h6 : (l.toArray.extract 0 d'.size).toList = l := by rw [hd']; simp
   rw [h5, h6] at p3
   exact p3
  have hg : (sortWorldK enc k w b 0 n d' os).heap[b]? = some (.cells (putCells id 0 (flatK enc k d') cur) e (0, 0)) := by
   unfold sortWorldK
   rw [heap_grow_old _ _ (by simpa [putRowK, Sort.ahead] using hblk)]
   simp [putRowK, putRow, mapBlock, Sort.ahead, Array.getElem?_modify, hb, onCells]
  refine ⟨rfl, d'.toList, hperm, ?_, ?_, ⟨rfl, rfl, rfl, ?_, fun i hi hn => ?_⟩⟩
  ·rw [List.pairwise_iff_getElem]
   intro i j hi hj hij
   have := hsd i j (Nat.zero_le _) hij (by rw [<- hd']; simpa using hj)
   rw [getElem!_pos d' j (by simpa using hj), getElem!_pos d' i (by simpa using hi)] at this
   simpa using this
  ·have hfl : (flatK enc k d').toList = d'.toList.flatMap enc := by
    have := flatK_toList enc k hk d'.toList
    simpa using this
   refine ⟨by rw [flatMap_len hk]; simp [hd'], .inr ⟨b, cap, _, rfl, Nat.zero_le _, hg, hc1, hc2, by simp [putCells, hc3], ?_⟩⟩
   have hsz : (flatK enc k d').size = l.length * k := by rw [size_flatK, hd']
   have := putCells_take (cur := cur) (F := flatK enc k d') (by rw [hsz, hc3]; exact Nat.mul_le_mul_right _ hc1)
   rw [hsz, hfl] at this
   exact this
  ·show w.heap.size <= ((mapBlock _ _ _).heap ++ os).size
   simp [mapBlock, Sort.ahead]
  ·have hne : ¬ b = i := fun x => hn (by rw [<- x]; rfl)
   unfold sortWorldK
   rw [heap_grow_old _ _ (by simpa [putRowK, Sort.ahead] using hi)]
   simp [putRowK, putRow, mapBlock, Sort.ahead, Array.getElem?_modify, hne]
end
end Go.Lap
namespace Go.Proofs
open Go.Shelf
def Tryz.sortRows_ren : Go.Shelf.Ren := ⟨fun | 6 => 65 | 15 => 110 | 14 => 109 | 28 => 156 | 29 => 157 | 20 => 148 | 21 => 149 | 22 => 150 | 23 => 151 | 24 => 152 | 25 => 153 | 26 => 154 | 27 => 155 | 46 => 176 | 47 => 177 | 48 => 178 | 49 => 179 | 50 => 180 | 57 => 192 | n => n, fun | 22 => 39 | 24 => 45 | 25 => 161 | 3 => 3 | 39 => 226 | 0 => 0 | 53 => 266 | 55 => 29 | 4 => 4 | 46 => 260 | 45 => 259 | 50 => 218 | 5 => 5 | 9 => 9 | 66 => 289 | 70 => 292 | 76 => 303 | 77 => 267 | n => n, fun | n => n⟩
theorem Tryz.sortRows : Go.Proofs.SlLaysF0.n6 Tryz.prog Tryz.sortRows_ren := {
  mixed := by kernel_rfl
  f6 := ⟨Tryz.f65.name, by decide, Tryz.func65.trans (congrArg some (by kernel_rfl))⟩
  f14 := ⟨Tryz.f109.name, by decide, Tryz.func109.trans (congrArg some (by kernel_rfl))⟩
  f15 := Tryz.func110.trans (congrArg some (by kernel_rfl))
  f20 := ⟨Tryz.f148.name, by decide, Tryz.func148.trans (congrArg some (by kernel_rfl))⟩
  f21 := ⟨Tryz.f149.name, by decide, Tryz.func149.trans (congrArg some (by kernel_rfl))⟩
  f22 := ⟨Tryz.f150.name, by decide, Tryz.func150.trans (congrArg some (by kernel_rfl))⟩
  f23 := ⟨Tryz.f151.name, by decide, Tryz.func151.trans (congrArg some (by kernel_rfl))⟩
  f24 := ⟨Tryz.f152.name, by decide, Tryz.func152.trans (congrArg some (by kernel_rfl))⟩
  f25 := ⟨Tryz.f153.name, by decide, Tryz.func153.trans (congrArg some (by kernel_rfl))⟩
  f26 := ⟨Tryz.f154.name, by decide, Tryz.func154.trans (congrArg some (by kernel_rfl))⟩
  f27 := ⟨Tryz.f155.name, by decide, Tryz.func155.trans (congrArg some (by kernel_rfl))⟩
  f28 := Tryz.func156.trans (congrArg some (by kernel_rfl))
  f29 := Tryz.func157.trans (congrArg some (by kernel_rfl))
  f46 := ⟨Tryz.f176.name, by decide, Tryz.func176.trans (congrArg some (by kernel_rfl))⟩
  f47 := Tryz.func177.trans (congrArg some (by kernel_rfl))
  f48 := Tryz.func178.trans (congrArg some (by kernel_rfl))
  f49 := ⟨Tryz.f179.name, by decide, Tryz.func179.trans (congrArg some (by kernel_rfl))⟩
  f50 := ⟨Tryz.f180.name, by decide, Tryz.func180.trans (congrArg some (by kernel_rfl))⟩
  f57 := ⟨Tryz.f192.name, by decide, Tryz.func192.trans (congrArg some (by kernel_rfl))⟩
  t0 := Tryz.underlying0
  a0 := Tryz.isAgg0
  z0 := Tryz.sizeOf0
  v0 := Tryz.zeroValue0
  t3 := Tryz.underlying3
  a3 := Tryz.isAgg3
  z3 := Tryz.sizeOf3
  v3 := Tryz.zeroValue3
  t4 := Tryz.underlying4
  a4 := Tryz.isAgg4
  z4 := Tryz.sizeOf4
  v4 := Tryz.zeroValue4
  t5 := Tryz.underlying5
  a5 := Tryz.isAgg5
  z5 := Tryz.sizeOf5
  v5 := Tryz.zeroValue5
  t9 := Tryz.underlying9
  a9 := Tryz.isAgg9
  z9 := Tryz.sizeOf9
  v9 := Tryz.zeroValue9
  t22 := Tryz.underlying39
  a22 := Tryz.isAgg39
  z22 := Tryz.sizeOf39
  v22 := Tryz.zeroValue39
  t25 := Tryz.underlying161
  a25 := Tryz.isAgg161
  z25 := Tryz.sizeOf161
  v25 := Tryz.zeroValue161
  t39 := Tryz.underlying226
  a39 := Tryz.isAgg226
  z39 := Tryz.sizeOf226
  v39 := Tryz.zeroValue226
  t45 := Tryz.underlying259
  a45 := Tryz.isAgg259
  z45 := Tryz.sizeOf259
  v45 := Tryz.zeroValue259
  t46 := Tryz.underlying260
  a46 := Tryz.isAgg260
  z46 := Tryz.sizeOf260
  v46 := Tryz.zeroValue260
  t50 := Tryz.underlying218
  a50 := Tryz.isAgg218
  z50 := Tryz.sizeOf218
  v50 := Tryz.zeroValue218
  t53 := Tryz.underlying266
  a53 := Tryz.isAgg266
  z53 := Tryz.sizeOf266
  v53 := Tryz.zeroValue266
  t55 := Tryz.underlying29
  a55 := Tryz.isAgg29
  z55 := Tryz.sizeOf29
  v55 := Tryz.zeroValue29
  t66 := Tryz.underlying289
  a66 := Tryz.isAgg289
  z66 := Tryz.sizeOf289
  v66 := Tryz.zeroValue289
  t70 := Tryz.underlying292
  a70 := Tryz.isAgg292
  z70 := Tryz.sizeOf292
  v70 := Tryz.zeroValue292
  t76 := Tryz.underlying303
  a76 := Tryz.isAgg303
  z76 := Tryz.sizeOf303
  v76 := Tryz.zeroValue303
  t77 := Tryz.underlying267
  a77 := Tryz.isAgg267
  z77 := Tryz.sizeOf267
  v77 := Tryz.zeroValue267 }
end Go.Proofs
namespace Go.Lap
def packB (L : List Nat) (j : Nat) : Nat := L.getD (4 * j) 0 + 4 * L.getD (4 * j + 1) 0 + 16 * L.getD (4 * j + 2) 0 + 64 * L.getD (4 * j + 3) 0
def packed (L : List Nat) : List Nat := (List.range ((L.length + 3) / 4)).map (packB L)
def States (L : List Nat) : Prop := ∀ x ∈ L, x <= 3
theorem States.le {L : List Nat} (h : States L) (i : Nat) : L.getD i 0 <= 3 := by
 rw [List.getD_eq_getElem?_getD]
 rcases e : L[i]? with _ | x
 ·simp
 ·have := h x (List.mem_of_getElem? e)
  simp; omega
theorem States.byte {L : List Nat} (h : States L) (j : Nat) : packB L j < 256 := by
 have h0 := h.le (4 * j)
 have h1 := h.le (4 * j + 1)
 have h2 := h.le (4 * j + 2)
 have h3 := h.le (4 * j + 3)
 unfold packB
 omega
theorem States.set {L : List Nat} (h : States L) (i : Nat) {s : Nat} (hs : s <= 3) : States (L.set i s) := by
 intro x hx
 rcases List.mem_or_eq_of_mem_set hx with y | y
 ·exact h x y
 ·subst y; exact hs
theorem States.snoc {L : List Nat} (h : States L) {s : Nat} (hs : s <= 3) : States (L ++ [s]) := by
 intro x hx
 rcases List.mem_append.1 hx with y | y
 ·exact h x y
 ·simp at y; subst y; exact hs
theorem packed_length (L : List Nat) : (packed L).length = (L.length + 3) / 4 := by simp [packed]
theorem packed_get (L : List Nat) {j : Nat} (h : j < (L.length + 3) / 4) : (packed L)[j]? = some (packB L j) := by
 unfold packed
 rw [List.getElem?_map, List.getElem?_range h]
 rfl
theorem packB_get {L : List Nat} (h : States L) (i : Nat) : packB L (i / 4) / 4 ^ (i % 4) % 4 = L.getD i 0 := by
 have h0 := h.le (4 * (i / 4))
 have h1 := h.le (4 * (i / 4) + 1)
 have h2 := h.le (4 * (i / 4) + 2)
 have h3 := h.le (4 * (i / 4) + 3)
 have hd : i = 4 * (i / 4) + i % 4 := by omega
 generalize hq : i / 4 = q at *
 have hr : i % 4 < 4 := Nat.mod_lt _ (by omega)
 generalize i % 4 = r at *
 subst hd
 unfold packB
 rcases r with _ | _ | _ | _ | r
 ·simp only [Nat.pow_zero, Nat.div_one, Nat.add_zero]; omega
 ·simp only [Nat.zero_add, Nat.pow_one]; omega
 ·simp only [Nat.zero_add, Nat.reduceAdd, Nat.reducePow]; omega
 ·simp only [Nat.zero_add, Nat.reduceAdd, Nat.reducePow]; omega
 ·omega
theorem getD_set_self {L : List Nat} {i : Nat} (h : i < L.length) (s : Nat) : (L.set i s).getD i 0 = s := by
 rw [List.getD_eq_getElem?_getD, List.getElem?_set_self h]; rfl
theorem getL_set_ne {L : List Nat} {i j : Nat} (h : i ≠ j) (s : Nat) : (L.set i s).getD j 0 = L.getD j 0 := by
 rw [List.getD_eq_getElem?_getD, List.getD_eq_getElem?_getD, List.getElem?_set_ne h]
theorem packB_set {L : List Nat} (h : States L) {i : Nat} (hi : i < L.length) (s : Nat) :
  packB (L.set i s) (i / 4) = packB L (i / 4) - 4 ^ (i % 4) * (packB L (i / 4) / 4 ^ (i % 4) % 4) + 4 ^ (i % 4) * s := by
 rw [packB_get h]
 have h0 := h.le (4 * (i / 4))
 have h1 := h.le (4 * (i / 4) + 1)
 have h2 := h.le (4 * (i / 4) + 2)
 have h3 := h.le (4 * (i / 4) + 3)
 have hd : i = 4 * (i / 4) + i % 4 := by omega
 generalize hq : i / 4 = q at *
 have hr : i % 4 < 4 := Nat.mod_lt _ (by omega)
 generalize i % 4 = r at *
 unfold packB
 rcases r with _ | _ | _ | _ | r
 ·have e : i = 4 * q := by omega
  subst e
  rw [getD_set_self hi, getL_set_ne (by omega), getL_set_ne (by omega), getL_set_ne (by omega)]
  simp only [Nat.pow_zero, Nat.one_mul]; omega
 ·have e : i = 4 * q + 1 := by omega
  subst e
  rw [getD_set_self hi, getL_set_ne (by omega), getL_set_ne (by omega), getL_set_ne (by omega)]
  simp only [Nat.zero_add, Nat.pow_one]; omega
 ·have e : i = 4 * q + 2 := by omega
  subst e
  rw [getD_set_self hi, getL_set_ne (by omega), getL_set_ne (by omega), getL_set_ne (by omega)]
  simp only [Nat.zero_add, Nat.reduceAdd, Nat.reducePow]; omega
 ·have e : i = 4 * q + 3 := by omega
  subst e
  rw [getD_set_self hi, getL_set_ne (by omega), getL_set_ne (by omega), getL_set_ne (by omega)]
  simp only [Nat.zero_add, Nat.reduceAdd, Nat.reducePow]; omega
 ·omega
theorem packB_set_ne {L : List Nat} {i j : Nat} (h : i / 4 ≠ j) (s : Nat) : packB (L.set i s) j = packB L j := by
 unfold packB
 rw [getL_set_ne (by omega), getL_set_ne (by omega), getL_set_ne (by omega), getL_set_ne (by omega)]
theorem packed_set {L : List Nat} {i : Nat} (_ : i < L.length) (s : Nat) : packed (L.set i s) = (packed L).set (i / 4) (packB (L.set i s) (i / 4)) := by
 apply List.ext_getElem?
 intro j
 rw [List.getElem?_set]
 rcases Nat.lt_or_ge j ((L.length + 3) / 4) with hj | hj
 ·rw [packed_get _ (by simpa using hj)]
  by_cases e : i / 4 = j
  ·subst e
   rw [if_pos rfl, if_pos (by rw [packed_length]; omega)]
  ·rw [if_neg e, packed_get _ hj, packB_set_ne e]
 ·rw [List.getElem?_eq_none (by rw [packed_length]; simpa using hj)]
  split
  ·rename_i e
   rw [if_neg (by rw [packed_length]; omega)]
  ·rw [List.getElem?_eq_none (by rw [packed_length]; exact hj)]
def packed0 (L : List Nat) : List Nat := if L.length % 4 = 0 then packed L ++ [0] else packed L
theorem packed_snoc0 (L : List Nat) : packed (L ++ [0]) = packed0 L := by
 have hg : ∀ k, (L ++ [0]).getD k 0 = L.getD k 0 := by
  intro k
  rw [List.getD_eq_getElem?_getD, List.getD_eq_getElem?_getD, List.getElem?_append]
  split
  ·rfl
  ·rename_i h
   rw [List.getElem?_eq_none (by omega : L.length <= k)]
   rcases hk : k - L.length with _ | n <;> simp
 have hb : ∀ j, packB (L ++ [0]) j = packB L j := by
  intro j
  unfold packB
  rw [hg, hg, hg, hg]
 unfold packed0
 apply List.ext_getElem?
 intro j
 by_cases h4 : L.length % 4 = 0
 ·rw [if_pos h4]
  rcases Nat.lt_trichotomy j ((L.length + 3) / 4) with hj | hj | hj
  ·rw [packed_get _ (by simp; omega), List.getElem?_append_left (by rw [packed_length]; exact hj), packed_get _ hj, hb]
  ·rw [packed_get _ (by simp; omega), List.getElem?_append_right (by rw [packed_length]; omega), packed_length, hb]
   have e : j - (L.length + 3) / 4 = 0 := by omega
   rw [e]
   have hz : ∀ k, L.length <= k -> L.getD k 0 = 0 := fun k hk => by rw [List.getD_eq_getElem?_getD, List.getElem?_eq_none hk]; rfl
   unfold packB
   rw [hz _ (by omega), hz _ (by omega), hz _ (by omega), hz _ (by omega)]
   rfl
  ·rw [List.getElem?_eq_none (by rw [packed_length]; simp; omega), List.getElem?_eq_none (by rw [List.length_append, packed_length]; simp; omega)]
 ·rw [if_neg h4]
  rcases Nat.lt_or_ge j ((L.length + 3) / 4) with hj | hj
  ·rw [packed_get _ (by simp; omega), packed_get _ hj, hb]
  ·rw [List.getElem?_eq_none (by rw [packed_length]; simp; omega), List.getElem?_eq_none (by rw [packed_length]; omega)]
theorem set_snoc (L : List Nat) (s : Nat) : (L ++ [0]).set L.length s = L ++ [s] := by simp
def stateL (L : List Nat) (x : Nat) : Nat := if 1 <= x then L.getD (x - 1) 0 else 0
theorem stateL_out {L : List Nat} {x : Nat} (h : x < 1 ∨ L.length < x) : stateL L x = 0 := by
 unfold stateL
 split
 ·rw [List.getD_eq_getElem?_getD, List.getElem?_eq_none (by omega)]; rfl
 ·rfl
def runsL (L : List Nat) : List Nat := (List.range L.length).filterMap fun i => if L.getD i 0 = 1 then some (i + 1) else none
def runsK (L : List Nat) (k : Nat) : List Nat := (List.range k).filterMap fun i => if L.getD i 0 = 1 then some (i + 1) else none
theorem runsK_all (L : List Nat) : runsK L L.length = runsL L := rfl
theorem runsK_succ (L : List Nat) (k : Nat) : runsK L (k + 1) = runsK L k ++ if L.getD k 0 = 1 then [k + 1] else [] := by
 unfold runsK
 rw [List.range_succ, List.filterMap_append]
 congr 1
 by_cases h : L.getD k 0 = 1
 ·rw [if_pos h, List.filterMap_cons, if_pos h]; rfl
 ·rw [if_neg h, List.filterMap_cons, if_neg h]; rfl
theorem runsK_length (L : List Nat) (k : Nat) : (runsK L k).length <= k := by
 have := List.length_filterMap_le (fun i => if L.getD i 0 = 1 then some (i + 1) else none) (List.range k)
 simpa [runsK] using this
theorem mem_runsL {L : List Nat} {x : Nat} : x ∈ runsL L ↔ stateL L x = 1 := by
 unfold runsL stateL
 rw [List.mem_filterMap]
 constructor
 ·rintro ⟨i, hi, h⟩
  split at h
  ·rename_i e
   injection h with h
   subst h
   rw [if_pos (by omega)]
   exact e
  ·cases h
 ·intro h
  split at h
  ·rename_i hx
   refine ⟨x - 1, ?_, ?_⟩
   ·rw [List.mem_range]
    rcases Nat.lt_or_ge (x - 1) L.length with y | y
    ·exact y
    ·rw [List.getD_eq_getElem?_getD, List.getElem?_eq_none y] at h; cases h
   ·rw [if_pos h, show x - 1 + 1 = x by omega]
  ·cases h
end Go.Lap
namespace Go.Lap
structure Snap where
 own : Nat
 xmin : Nat
 xmax : Nat
 run : List Nat
 deriving DecidableEq
def leastR (own : Nat) (n : Nat) (l : List Nat) : Nat := l.foldl (fun m x => if x = own then m else min m x) n
def others (own : Nat) (R : List Nat) : List Nat := R.filter (· ≠ own)
theorem mem_others {own x : Nat} {R : List Nat} : x ∈ others own R ↔ x ∈ R /\ x ≠ own := by unfold others; rw [List.mem_filter]; simp
def takeS (L : List Nat) (own : Nat) : Snap := ⟨own, leastR own (L.length + 1) (runsL L), L.length + 1, others own (runsL L)⟩
def seesS (L : List Nat) (s : Snap) (x : Nat) : Bool := decide (x = s.own) || (decide (x < s.xmax) && !decide (x ∈ s.run) && decide (stateL L x = 2))
def visS (L : List Nat) (s : Snap) (xmin xmax : Nat) : Bool := seesS L s xmin && (decide (xmax = 0) || !seesS L s xmax)
def freeS (L : List Nat) (s : Snap) (xmin xmax : Nat) : Nat :=
 if xmax ≠ 0 /\ xmax ≠ s.own /\ stateL L xmax ≠ 3 then 11 else if visS L s xmin xmax = false then 14 else 0
def deadS (L : List Nat) (xmin xmax horizon : Nat) : Bool := decide (stateL L xmin = 3) || (decide (xmax ≠ 0) && decide (stateL L xmax = 2) && decide (xmax < horizon))
theorem runsL_le {L : List Nat} {x : Nat} (h : x ∈ runsL L) : 1 <= x /\ x <= L.length := by
 rw [mem_runsL] at h
 refine ⟨?_, ?_⟩
 ·rcases Nat.lt_or_ge x 1 with y | y
  ·rw [stateL_out (Or.inl y)] at h; cases h
  ·exact y
 ·rcases Nat.lt_or_ge L.length x with y | y
  ·rw [stateL_out (Or.inr y)] at h; cases h
  ·exact y
end Go.Lap
namespace Go.Lap
open Go.RowKit
theorem byte_set (x s r : Nat) (hx : x < 256) (hs : s <= 3) (hr : r < 4) :
  bits .or .u8 (bits .andNot .u8 (x : Int) (3 * 2 ^ (2 * r) % 256)) ((s : Int) * 2 ^ (2 * r) % 256) = ((x - 4 ^ r * (x / 4 ^ r % 4) + 4 ^ r * s : Nat) : Int) := by
 have key : ∀ (x : Fin 256) (s r : Fin 4), bits .or .u8 (bits .andNot .u8 ((x.val : Nat) : Int) (3 * 2 ^ (2 * r.val) % 256)) (((s.val : Nat) : Int) * 2 ^ (2 * r.val) % 256) = ((x.val - 4 ^ r.val * (x.val / 4 ^ r.val % 4) + 4 ^ r.val * s.val : Nat) : Int) := by decide +kernel
 exact key ⟨x, hx⟩ ⟨s, by omega⟩ ⟨r, hr⟩
theorem byte_get (x r : Nat) (hx : x < 256) (hr : r < 4) : bits .and .u8 ((x : Int) / 2 ^ (2 * r)) 3 = ((x / 4 ^ r % 4 : Nat) : Int) := by
 have key : ∀ (x : Fin 256) (r : Fin 4), bits .and .u8 (((x.val : Nat) : Int) / 2 ^ (2 * r.val)) 3 = ((x.val / 4 ^ r.val % 4 : Nat) : Int) := by decide +kernel
 exact key ⟨x, hx⟩ ⟨r, hr⟩
end Go.Lap
namespace Go.Lap
open Go.RowKit
def U64 (k : Nat) : Prop := k < 18446744073709551616
def u64sV (l : List Nat) : List Value := l.map (fun x : Nat => Value.int .u64 x)
theorem one_u64 (l : List Nat) : ∀ u ∈ u64sV l, u.oneCell' = true := by
 intro u hu
 obtain ⟨n, _, rfl⟩ := List.mem_map.1 hu
 rfl
theorem bytesV_set (l : List Nat) (i x : Nat) : (bytesV l).set i (.int .u8 (x : Int)) = bytesV (l.set i x) := by simp [bytesV, List.map_set]
end Go.Lap
namespace Go.Proofs.YthipgglplneijaaGreatDoor
open Go.RowKit Go.Lap
structure LogRow (w : World) (F : Nat -> Prop) (lb : Nat) (L : List Nat) (v : Value) : Prop where
 box : w.heap[lb]? = some (.cells #[.int .u64 1, .int .u64 (L.length : Int), v] 128 (0, 0))
 row : w.ownsRow 0 5 1 v (packed L).length (bytesV (packed L))
 foot : F lb /\ ∀ k, v.ownBlock = some k -> F k
 st : States L
 most : L.length <= 1099511627776
def LogAt (w : World) (F : Nat -> Prop) (lb : Nat) (L : List Nat) : Prop := ∃ v, LogRow w F lb L v
section
variable {w w' : World} {F : Nat -> Prop} {lb : Nat} {L : List Nat} {v : Value}
theorem LogRow.kept {S : Nat -> Prop} (h : LogRow w F lb L v) (ho : Only S w w') (hn : ∀ k, F k -> ¬ S k) : LogRow w' F lb L v :=
 ⟨ho.get h.box (hn _ h.foot.1), owns_kept h.row ho (fun k e => hn k (h.foot.2 k e)), h.foot, h.st, h.most⟩
theorem LogAt.kept {S : Nat -> Prop} (h : LogAt w F lb L) (ho : Only S w w') (hn : ∀ k, F k -> ¬ S k) : LogAt w' F lb L := by
 obtain ⟨v, h⟩ := h
 exact ⟨v, h.kept ho hn⟩
theorem LogAt.drewN (h : LogAt w F lb L) (n : Nat) : LogAt (w.drewN n) F lb L := h.kept ((Only.refl (fun _ => False) w).drewN n) (fun _ _ x => x)
theorem LogAt.mono {G : Nat -> Prop} (h : LogAt w F lb L) (hg : ∀ k, F k -> k < w.heap.size -> G k) : LogAt w G lb L := by
 obtain ⟨v, h⟩ := h
 exact ⟨v, h.box, h.row, ⟨hg _ h.foot.1 (lt_of_get h.box), fun k e => hg _ (h.foot.2 k e) (h.row.lt k e).2⟩, h.st, h.most⟩
theorem LogRow.cells (h : LogRow w F lb L v) : w.cell? ⟨lb, 0, none⟩ = some (.int .u64 1) /\ w.cell? ⟨lb, 1, none⟩ = some (.int .u64 (L.length : Int)) /\ w.cell? ⟨lb, 2, none⟩ = some v :=
 ⟨by rw [cell_of h.box]; rfl, by rw [cell_of h.box]; rfl, by rw [cell_of h.box]; rfl⟩
theorem LogAt.lt (h : LogAt w F lb L) : lb < w.heap.size /\ F lb := by
 obtain ⟨v, h⟩ := h
 exact ⟨lt_of_get h.box, h.foot.1⟩
end
set_option maxHeartbeats 400000 in
theorem log_new (w : World) :
  Calls Tryz.prog 20 #[.int .u64 1] w fun e w' => e = .returned (.tuple #[.pointer (some ⟨w.heap.size, 0, none⟩), .int .i64 0]) /\ Quiet w w' /\ LogAt w' (fun k => w.heap.size <= k) w.heap.size [] := by
 go_enter Tryz.func20, Tryz.ntmps20
 go_wp2
 go_ret2
 exact ⟨rfl, (Only.refl _ _).alloc _, .slice none 0 0, alloc_new _ _, World.ownsRow_nil _ _ _ _, ⟨Nat.le_refl _, fun k e => by cases e⟩, fun x hx => by simp at hx, by simp⟩
set_option maxHeartbeats 400000 in
theorem log_next {F : Nat -> Prop} {lb : Nat} {L : List Nat} {w : World} (h : LogAt w F lb L) :
  Calls Tryz.prog 49 #[.pointer (some ⟨lb, 0, none⟩)] w fun e w' => e = .returned (.int .u64 ((L.length : Int) + 1)) /\ ∃ n, w' = w.drewN n := by
 obtain ⟨v, h⟩ := h
 obtain ⟨c0, c1, _⟩ := h.cells
 have hm := h.most
 have e1 : IntKind.u64.wrap (1 + (L.length : Int)) = (L.length : Int) + 1 := by rw [IntKind.wrap_u64]; omega
 clear h
 go_enter Tryz.func49, Tryz.ntmps49
 go_wp2
 go_quiet (fail)
 go_wp2
 go_ret
 exact ⟨rfl, _, rfl⟩
set_option maxHeartbeats 1000000 in
theorem log_set {F : Nat -> Prop} {lb i s : Nat} {L : List Nat} {v : Value} {w : World} (h : LogRow w F lb L v) (hi : i < L.length) (hs : s <= 3) :
  Calls Tryz.prog 50 #[.pointer (some ⟨lb, 0, none⟩), .int .u64 ((i : Int) + 1), .int .u8 (s : Int)] w fun e w' => e = .returned (.tuple #[]) /\ Only F w w' /\ LogRow w' F lb (L.set i s) v := by
 obtain ⟨c0, c1, c2⟩ := h.cells
 have hm := h.most
 have hl := packed_length L
 obtain ⟨g, cap, rfl, hc, hcm⟩ : ∃ g cap, v = .slice (some ⟨g, 0, none⟩) (packed L).length cap /\ (packed L).length <= cap /\ cap <= maxLen := by
  rcases owns_cases h.row with ⟨_, e⟩ | x
  ·omega
  ·exact x
 have hg : w.cell? ⟨g, i / 4, none⟩ = some (.int .u8 (packB L (i / 4) : Nat)) := by
  have := h.row.cells (by rfl) (i / 4) (.int .u8 (packB L (i / 4) : Nat)) (by unfold bytesV; rw [List.getElem?_map, packed_get _ (by omega)]; rfl)
  rw [add_none, Nat.zero_add] at this
  exact this
 have hf : ∀ o, w.frozen? ⟨g, o, none⟩ = false := by
  obtain ⟨c, hh⟩ := own_blk h.row rfl
  exact frozen_of hh
 have hb := h.st.byte (i / 4)
 have hset := packB_set h.st hi s
 have hq : ((i : Int) / 4).toNat = i / 4 := by omega
 obtain ⟨x, hx⟩ : ∃ x, packB L (i / 4) = x := ⟨_, rfl⟩
 rw [hx] at hb hset hg
 obtain ⟨n, hn⟩ : ∃ n, (packed L).length = n := ⟨_, rfl⟩
 rw [hn] at c2 hc hl
 unfold maxLen at hcm
 have hin : i / 4 < n := by omega
 have H := Lib.hid h
 clear h
 go_enter Tryz.func50, Tryz.ntmps50
 go_wp2
 rw [byte_set x s (i % 4) hb hs (Nat.mod_lt _ (by omega)), <- hset]
 go_end0
 have hst := H.out.row.stored (i / 4) (.int .u8 ((packB (L.set i s) (i / 4) : Nat) : Int))
 have ho : Only (· = g) w (w.setCell ⟨g, i / 4, none⟩ (.int .u8 ((packB (L.set i s) (i / 4) : Nat) : Int))) := (Only.refl (· = g) w).setCell (p := ⟨g, i / 4, none⟩) (fun _ => rfl) _
 refine ⟨rfl, ho.mono (fun k _ e => by subst e; exact H.out.foot.2 _ rfl), ?_, ?_, H.out.foot, H.out.st.set i hs, by simpa using H.out.most⟩
 ·obtain ⟨c, hh⟩ := own_blk H.out.row rfl
  rw [List.length_set]
  exact ho.get H.out.box (ne_type H.out.box hh (by decide))
 ·rw [packed_set hi, <- bytesV_set, List.length_set]
  exact hst.1
set_option maxHeartbeats 1000000 in
theorem log_state {F : Nat -> Prop} {lb x : Nat} {L : List Nat} {w : World} (h : LogAt w F lb L) (hx : U64 x) :
  Calls Tryz.prog 90 #[.pointer (some ⟨lb, 0, none⟩), .int .u64 (x : Int)] w fun e w' => e = .returned (.int .i64 (stateL L x : Int)) /\ ∃ n, w' = w.drewN n := by
 have HNX := Lib.hid (log_next h)
 obtain ⟨v, h⟩ := h
 obtain ⟨c0, c1, c2⟩ := h.cells
 have hm := h.most
 unfold U64 at hx
 by_cases h1 : x < 1
 ·have HS : Hid (stateL L x = 0) := stateL_out (Or.inl h1)
  clear h
  go_enter Tryz.func90, Tryz.ntmps90
  go_wp2
  go_ret
  exact ⟨by rw [HS.out]; rfl, 0, rfl⟩
 ·by_cases h2 : L.length < x
  ·have HS : Hid (stateL L x = 0) := stateL_out (Or.inr h2)
   clear h
   have d1 : decide ((L.length : Int) + 1 <= x) = true := decide_eq_true (by omega)
   go_enter Tryz.func90, Tryz.ntmps90
   go_wp2_with fail
   refine HNX.out.mono ?_
   rintro e w1 ⟨rfl, n, rfl⟩
   go_wp2
   go_ret
   exact ⟨by rw [HS.out]; rfl, n, rfl⟩
  ·obtain ⟨i, rfl⟩ : ∃ i, x = i + 1 := ⟨x - 1, by omega⟩
   have hi : i < L.length := by omega
   have HS : Hid (stateL L (i + 1) = packB L (i / 4) / 4 ^ (i % 4) % 4) := by
    rw [packB_get h.st]
    unfold stateL
    rw [if_pos (by omega)]
    rfl
   have hl := packed_length L
   obtain ⟨g, cap, rfl, hc, hcm⟩ : ∃ g cap, v = .slice (some ⟨g, 0, none⟩) (packed L).length cap /\ (packed L).length <= cap /\ cap <= maxLen := by
    rcases owns_cases h.row with ⟨_, e⟩ | x
    ·omega
    ·exact x
   have hg : w.cell? ⟨g, i / 4, none⟩ = some (.int .u8 (packB L (i / 4) : Nat)) := by
    have := h.row.cells (by rfl) (i / 4) (.int .u8 (packB L (i / 4) : Nat)) (by unfold bytesV; rw [List.getElem?_map, packed_get _ (by omega)]; rfl)
    rw [add_none, Nat.zero_add] at this
    exact this
   have hb := h.st.byte (i / 4)
   have hq : ((i : Int) / 4).toNat = i / 4 := by omega
   obtain ⟨y, hy⟩ : ∃ y, packB L (i / 4) = y := ⟨_, rfl⟩
   rw [hy] at hb hg HS
   obtain ⟨n, hn⟩ : ∃ n, (packed L).length = n := ⟨_, rfl⟩
   rw [hn] at c2 hc hl
   unfold maxLen at hcm
   have hin : i / 4 < n := by omega
   have hpos : 0 <= (y : Int) := by omega
   have HB := Lib.hid (byte_get y (i % 4) hb (Nat.mod_lt _ (by omega)))
   have d1 : decide ((L.length : Int) + 1 <= (i : Int) + 1) = false := decide_eq_false (by omega)
   have d2 : ¬ ((L.length : Int) + 1 <= (i : Int) + 1) := by omega
   clear h hn hl hy
   go_enter Tryz.func90, Tryz.ntmps90
   go_wp2_with fail
   refine HNX.out.mono ?_
   rintro e w1 ⟨rfl, m, rfl⟩
   go_wp2
   rw [HB.out]
   have hlt : y / 4 ^ (i % 4) % 4 < 4 := Nat.mod_lt _ (by omega)
   have HW : Hid (wrap64 ((y / 4 ^ (i % 4) % 4 : Nat) : Int) = ((y / 4 ^ (i % 4) % 4 : Nat) : Int)) := by
    generalize y / 4 ^ (i % 4) % 4 = z at hlt
    show wrap64 (z : Int) = z
    unfold wrap64
    omega
   rw [HW.out]
   go_ret
   exact ⟨by rw [HS.out]; rfl, m, rfl⟩
def endL (L : List Nat) (x s : Nat) : Nat × List Nat := if stateL L x = 1 then (0, L.set (x - 1) s) else (15, L)
def EndPost (w : World) (F : Nat -> Prop) (lb : Nat) (r : Nat × List Nat) (e : Ending) (w' : World) : Prop := e = .returned (.int .i64 (r.1 : Int)) /\ Only F w w' /\ LogAt w' F lb r.2
theorem stateL_in {L : List Nat} {x : Nat} (h : stateL L x = 1) : 1 <= x /\ x <= L.length := runsL_le (mem_runsL.2 h)
set_option maxHeartbeats 400000 in
theorem log_end {F : Nat -> Prop} {lb x s : Nat} {L : List Nat} {w : World} (h : LogAt w F lb L) (hx : U64 x) (hs : s <= 3) :
  Calls Tryz.prog 62 #[.pointer (some ⟨lb, 0, none⟩), .int .u64 (x : Int), .int .u8 (s : Int)] w (EndPost w F lb (endL L x s)) := by
 have HST := Lib.hid (log_state h hx)
 by_cases h1 : stateL L x = 1
 ·obtain ⟨hx1, hx2⟩ := stateL_in h1
  have HR : Hid (endL L x s = (0, L.set (x - 1) s)) := if_pos h1
  obtain ⟨v, h⟩ := h
  have HSET : Hid (∀ n, Calls Tryz.prog 50 #[.pointer (some ⟨lb, 0, none⟩), .int .u64 (x : Int), .int .u8 (s : Int)] (w.drewN n) fun e w' => e = .returned (.tuple #[]) /\ Only F (w.drewN n) w' /\ LogRow w' F lb (L.set (x - 1) s) v) := fun n => by
   have := log_set (i := x - 1) (h.kept ((Only.refl (fun _ => False) w).drewN n) (fun _ _ x => x)) (by omega) hs
   rw [show ((x - 1 : Nat) : Int) + 1 = (x : Int) by omega] at this
   exact this
  rw [h1] at HST
  clear h h1 hx hx1 hx2
  go_enter Tryz.func62, Tryz.ntmps62
  go_wp2_with fail
  refine HST.out.mono ?_
  rintro e w1 ⟨rfl, n, rfl⟩
  go_wp2_with fail
  refine (HSET.out n).mono ?_
  rintro e w2 ⟨rfl, ho2, hl2⟩
  have HP : Hid (EndPost w F lb (endL L x s) (.returned (.int .i64 0)) w2) := by
   rw [HR.out]
   exact ⟨rfl, ((Only.refl F w).drewN n).trans ho2, v, hl2⟩
  clear ho2 hl2 HSET HST
  go_wp2
  go_ret
  exact HP.out
 ·have HP : Hid (∀ n, EndPost w F lb (endL L x s) (.returned (.int .i64 15)) (w.drewN n)) := fun n => by
   unfold endL
   rw [if_neg h1]
   exact ⟨rfl, (Only.refl F w).drewN n, h.drewN n⟩
  have hne : ¬ ((stateL L x : Nat) : Int) = 1 := by omega
  generalize stateL L x = st at HST hne
  clear h h1 hx
  go_enter Tryz.func62, Tryz.ntmps62
  go_wp2_with fail
  refine HST.out.mono ?_
  rintro e w1 ⟨rfl, n, rfl⟩
  go_wp2
  go_ret
  exact HP.out n
set_option maxHeartbeats 400000 in
theorem log_commit {F : Nat -> Prop} {lb x : Nat} {L : List Nat} {w : World} (h : LogAt w F lb L) (hx : U64 x) :
  Calls Tryz.prog 32 #[.pointer (some ⟨lb, 0, none⟩), .int .u64 (x : Int)] w (EndPost w F lb (endL L x 2)) := by
 have HE := Lib.hid (log_end (s := 2) h hx (by omega))
 obtain ⟨POST, hP⟩ : ∃ P, EndPost w F lb (endL L x 2) = P := ⟨_, rfl⟩
 have HR : Hid (∀ e w', POST e w' -> ∃ v : Nat, e = .returned (.int .i64 (v : Int))) := by rw [<- hP]; rintro e w' ⟨rfl, _⟩; exact ⟨_, rfl⟩
 rw [hP] at HE ⊢
 clear h hx hP
 go_enter Tryz.func32, Tryz.ntmps32
 go_wp2_with fail
 refine HE.out.mono ?_
 intro e w1 h1
 obtain ⟨v, rfl⟩ := HR.out e w1 h1
 have H1 := Lib.hid h1
 clear h1
 go_wp2
 exact H1.out
structure NumsW (w wr : World) (v : Value) (l : List Nat) : Prop where
 quiet : Quiet w wr
 row : wr.ownsRow 0 29 1 v l.length (u64sV l)
 own : ∀ k, v.ownBlock = some k -> w.heap.size <= k
theorem elem_u64 : Elem Tryz.prog 71 29 1 8 := Elem.mk' (.int .u64 0) Tryz.underlying71 (by kernel_rfl) rfl (by decide)
section
variable {w wr w' : World} {v : Value} {l : List Nat}
theorem NumsW.start (h : Quiet w wr) : NumsW w wr (.slice none 0 0) [] := ⟨h, World.ownsRow_nil _ _ _ _, (fun _ x => by cases x)⟩
theorem NumsW.quietly (h : NumsW w wr v l) (hq : Quiet wr w') : NumsW w w' v l := ⟨h.quiet.trans hq, owns_kept h.row hq (fun _ _ x => x), h.own⟩
theorem NumsW.step {w4 : World} {v' : Value} {o : Obj} {x : Nat} (h : NumsW w wr v l) (hg : Grew (wr.alloc o) w4 29 1 v v' (l.length + 1) (u64sV l ++ u64sV [x])) : NumsW w w4 v' (l ++ [x]) := by
 have hsz := h.quiet.size
 refine ⟨(h.quiet.alloc _).trans' hg.only (fun k hk e => by have := h.own k e; omega), ?_, fun k e => ?_⟩
 ·rw [List.length_append, show u64sV (l ++ [x]) = u64sV l ++ u64sV [x] by simp [u64sV]]
  exact hg.own
 ·rcases hg.loc with y | y
  ·rw [y] at e; exact h.own k e
  ·rw [y] at e; injection e with e; simp only [World.size_alloc] at e; omega
end
def NumsPost (w : World) (l : List Nat) (e : Ending) (w' : World) : Prop := ∃ v, e = .returned v /\ NumsW w w' v l
theorem nums_rd (w : World) (x : Nat) (e : TypeId) : Rd (w.alloc (.cells #[.int .u64 (x : Int)] e)) (fun _ => True) 1 (some ⟨w.heap.size, 0, none⟩) 1 (u64sV [x]) := Rd.new w 1 1 (u64sV [x]) e _ rfl trivial
set_option maxHeartbeats 1000000 in
theorem log_all {F : Nat -> Prop} {lb : Nat} {L : List Nat} {w : World} (h : LogAt w F lb L) (hl : L.length <= 1000000) :
  Calls Tryz.prog 51 #[.pointer (some ⟨lb, 0, none⟩)] w (NumsPost w (runsL L)) := by
 have HL := Lib.hid h
 obtain ⟨v, h⟩ := h
 obtain ⟨c0, c1, _⟩ := h.cells
 clear h
 go_enter Tryz.func51, Tryz.ntmps51
 go_wp2
 go_loopw [3, 11, 4] (fun o c _ wr => ∃ (k : Nat) (v' : Value), k <= L.length /\ c = .int .u64 (k : Int) /\ o = v' /\ NumsW w wr v' (runsK L k)) (fun _ c _ _ => L.length - (intOf c).toNat)
 case atStart => exact ⟨0, _, Nat.zero_le _, rfl, rfl, NumsW.start (Only.refl _ _)⟩
 case round =>
  obtain ⟨k, v', hk, rfl, rfl, hW⟩ := hrel
  have HW := Lib.hid hW
  obtain ⟨q0, q1⟩ : wr.cell? ⟨lb, 0, none⟩ = some (.int .u64 1) /\ wr.cell? ⟨lb, 1, none⟩ = some (.int .u64 (L.length : Int)) := ⟨hW.quiet.cell c0 (fun x => x), hW.quiet.cell c1 (fun x => x)⟩
  have hle := runsK_length L k
  clear hW
  by_cases hlt : k < L.length
  ·have HST := Lib.hid (log_state (x := k + 1) (HL.out.kept HW.out.quiet (fun _ _ x => x)) (by unfold U64; omega))
   have HRK := Lib.hid (runsK_succ L k)
   have hsk : stateL L (k + 1) = L.getD k 0 := by unfold stateL; rw [if_pos (by omega)]; rfl
   rw [hsk, show ((k + 1 : Nat) : Int) = 1 + (k : Int) by omega] at HST
   obtain ⟨st, hst⟩ : ∃ st, L.getD k 0 = st := ⟨_, rfl⟩
   rw [hst] at HST HRK
   clear hsk hst
   by_cases h1 : st = 1
   ·subst h1
    rw [if_pos rfl] at HRK
    go_wp2_with fail
    refine HST.out.mono ?_
    rintro e w1 ⟨rfl, n, rfl⟩
    have HW1 := Lib.hid (HW.out.quietly ((Only.refl (fun _ => False) wr).drewN n))
    clear HW HST q0 q1
    generalize wr.drewN n = wd at HW1 ⊢
    have q0 : wd.cell? ⟨lb, 0, none⟩ = some (.int .u64 1) := HW1.out.quiet.cell c0 (fun x => x)
    have HRD : Hid (Rd (wd.alloc (.cells #[.int .u64 (1 + (k : Int))] 29)) (fun _ => True) 1 (some ⟨wd.heap.size, 0, none⟩) 1 (u64sV [k + 1])) := by
     have := nums_rd wd (k + 1) 29
     rw [show ((k + 1 : Nat) : Int) = 1 + (k : Int) by omega] at this
     exact this
    have HR1 := Lib.hid (owns_kept HW1.out.row ((Only.refl (fun _ => False) wd).alloc (.cells #[.int .u64 (1 + (k : Int))] 29)) (fun _ _ x => x))
    go_wp2_with (at_builtin; refine app elem_u64 rfl (.tmp 23) (.tmp 30) rfl rfl HR1.out rfl HRD.out (one_u64 [k + 1]) (by unfold maxLen; omega) (by omega) ?_)
    intro v4 w4 hg4
    have HST := Lib.hid (HW1.out.step hg4)
    clear hg4 HR1 HRD HW1 q0
    go_wp2
    go_roundw
    case rel => exact ⟨k + 1, _, by omega, by go_num, rfl, by rw [HRK.out]; exact HST.out⟩
    case measure => simp [intOf]; omega
   ·have hne : ¬ ((st : Nat) : Int) = 1 := by omega
    rw [if_neg h1, List.append_nil] at HRK
    clear h1
    go_wp2_with fail
    refine HST.out.mono ?_
    rintro e w1 ⟨rfl, n, rfl⟩
    have HW1 := Lib.hid (HW.out.quietly ((Only.refl (fun _ => False) wr).drewN n))
    clear HW HST
    go_wp2
    go_roundw
    case rel => exact ⟨k + 1, _, by omega, by go_num, rfl, by rw [HRK.out]; exact HW1.out⟩
    case measure => simp [intOf]; omega
  ·obtain rfl : k = L.length := by omega
   rw [runsK_all] at HW
   go_wp2
   go_ret
   exact ⟨_, rfl, HW.out⟩
def BeginPost (w : World) (F : Nat -> Prop) (lb : Nat) (L : List Nat) (e : Ending) (w' : World) : Prop :=
 e = .returned (.tuple #[.int .u64 ((L.length : Int) + 1), .int .i64 0]) /\ Only F w w' /\ LogAt w' (fun k => F k ∨ w.heap.size <= k) lb (L ++ [1])
theorem zero_rd (w : World) (e : TypeId) : Rd (w.alloc (.cells #[.int .u8 0] e)) (fun _ => True) 1 (some ⟨w.heap.size, 0, none⟩) 1 (bytesV [0]) := Rd.new w 1 1 (bytesV [0]) e _ rfl trivial
theorem LogRow.grow {w wd w4 : World} {F : Nat -> Prop} {lb : Nat} {L : List Nat} {v v4 : Value} (h : LogRow w F lb L v) (hq : Quiet w wd) (h4 : L.length % 4 = 0)
  (hg : Grew (wd.alloc (.cells #[.int .u8 0] 5)) w4 5 1 v v4 ((packed L).length + 1) (bytesV (packed L) ++ bytesV [0])) (hm : L.length < 1099511627776) (z : Int) (hz : z = (L.length : Int) + 1) :
  Only F w ((w4.setCell ⟨lb, 2, none⟩ v4).setCell ⟨lb, 1, none⟩ (.int .u64 z)) /\ LogRow ((w4.setCell ⟨lb, 2, none⟩ v4).setCell ⟨lb, 1, none⟩ (.int .u64 z)) (fun k => F k ∨ w.heap.size <= k) lb (L ++ [0]) v4 := by
 subst hz
 have hne : ∀ k, v.ownBlock = some k -> k ≠ lb := fun k e => by
  obtain ⟨c, hh⟩ := own_blk h.row e
  exact (ne_type h.box hh (by decide)).symm
 have hl := lt_of_get h.box
 have hsz := hq.size
 have hqa : Quiet w (wd.alloc (.cells #[.int .u8 0] 5)) := hq.alloc _
 have b4 := hg.only.get (hqa.get h.box (fun x => x)) (fun e => hne lb e rfl)
 have ho2 : Only (· = lb) w4 ((w4.setCell ⟨lb, 2, none⟩ v4).setCell ⟨lb, 1, none⟩ (.int .u64 ((L.length : Int) + 1))) := ((Only.refl (· = lb) w4).setCell (p := ⟨lb, 2, none⟩) (fun _ => rfl) v4).setCell (p := ⟨lb, 1, none⟩) (fun _ => rfl) _
 have hv4 : ∀ k, v4.ownBlock = some k -> k ≠ lb /\ (F k ∨ w.heap.size <= k) := fun k e => by
  rcases hg.loc with x | x
  ·rw [x] at e; exact ⟨hne k e, Or.inl (h.foot.2 k e)⟩
  ·rw [x] at e; injection e with e; simp only [World.size_alloc] at e; exact ⟨by omega, Or.inr (by omega)⟩
 refine ⟨((hqa.mono (T := F) (fun _ _ x => x.elim)).trans' hg.only (fun k _ e => h.foot.2 k e)).trans' ho2 (fun k _ e => by subst e; exact h.foot.1), ?_, ?_, ⟨Or.inl h.foot.1, fun k e => (hv4 k e).2⟩, h.st.snoc (by omega), by simp; omega⟩
 ·rw [set_same (set_same b4 2 _) 1 _]
  simp
 ·rw [packed_snoc0]
  unfold packed0
  rw [if_pos h4, List.length_append, show bytesV (packed L ++ [0]) = bytesV (packed L) ++ bytesV [0] by simp [bytesV]]
  exact owns_kept hg.own ho2 (fun k e x => (hv4 k e).1 x)
theorem LogRow.count {w wd : World} {F : Nat -> Prop} {lb : Nat} {L : List Nat} {v : Value} (h : LogRow w F lb L v) (hq : Quiet w wd) (h4 : ¬ L.length % 4 = 0) (hm : L.length < 1099511627776) (z : Int) (hz : z = (L.length : Int) + 1) :
  Only F w (wd.setCell ⟨lb, 1, none⟩ (.int .u64 z)) /\ LogRow (wd.setCell ⟨lb, 1, none⟩ (.int .u64 z)) (fun k => F k ∨ w.heap.size <= k) lb (L ++ [0]) v := by
 subst hz
 have hne : ∀ k, v.ownBlock = some k -> k ≠ lb := fun k e => by
  obtain ⟨c, hh⟩ := own_blk h.row e
  exact (ne_type h.box hh (by decide)).symm
 have bd := hq.get h.box (fun x => x)
 have ho2 : Only (· = lb) wd (wd.setCell ⟨lb, 1, none⟩ (.int .u64 ((L.length : Int) + 1))) := (Only.refl (· = lb) wd).setCell (p := ⟨lb, 1, none⟩) (fun _ => rfl) _
 refine ⟨(hq.mono (T := F) (fun _ _ x => x.elim)).trans' ho2 (fun k _ e => by subst e; exact h.foot.1), ?_, ?_, ⟨Or.inl h.foot.1, fun k e => Or.inl (h.foot.2 k e)⟩, h.st.snoc (by omega), by simp; omega⟩
 ·rw [set_same bd 1 _]
  simp
 ·rw [packed_snoc0]
  unfold packed0
  rw [if_neg h4]
  exact owns_kept (owns_kept h.row hq (fun _ _ x => x)) ho2 (fun k e x => hne k e x)
set_option maxHeartbeats 1000000 in
theorem log_begin {F : Nat -> Prop} {lb : Nat} {L : List Nat} {w : World} (h : LogAt w F lb L) (hm : L.length < 1099511627776) :
  Calls Tryz.prog 22 #[.pointer (some ⟨lb, 0, none⟩)] w (BeginPost w F lb L) := by
 have HNX := Lib.hid (log_next h)
 obtain ⟨v, h⟩ := h
 have HN2 : Hid (∀ n, Calls Tryz.prog 49 #[.pointer (some ⟨lb, 0, none⟩)] (w.drewN n) fun e w' => e = .returned (.int .u64 ((L.length : Int) + 1)) /\ ∃ m, w' = (w.drewN n).drewN m) := fun n => log_next ⟨v, h.kept ((Only.refl (fun _ => False) w).drewN n) (fun _ _ x => x)⟩
 have H := Lib.hid h
 have d0 : decide ((1099511627776 : Int) < (L.length : Int) + 1) = false := decide_eq_false (by omega)
 have hsz := lt_of_get h.box
 clear h
 go_enter Tryz.func22, Tryz.ntmps22
 go_wp2_with fail
 refine HNX.out.mono ?_
 rintro e w1 ⟨rfl, n, rfl⟩
 go_wp2_with fail
 refine (HN2.out n).mono ?_
 rintro e w2 ⟨rfl, m, rfl⟩
 have HQ : Hid (Quiet w ((w.drewN n).drewN m)) := ((Only.refl _ w).drewN n).drewN m
 generalize (w.drewN n).drewN m = wd at HQ ⊢
 obtain ⟨_, q1, q2⟩ := (H.out.kept HQ.out (fun _ _ x => x)).cells
 have hf : ∀ o, wd.frozen? ⟨lb, o, none⟩ = false := fun o => frozen_of (HQ.out.get H.out.box (fun x => x)) o
 have hlw : lb < wd.heap.size := lt_of_get (HQ.out.get H.out.box (fun x => x))
 have e1 : IntKind.u64.wrap ((L.length : Int) + 1) = (L.length : Int) + 1 := by rw [IntKind.wrap_u64]; omega
 by_cases h4 : L.length % 4 = 0
 ·have d4 : (L.length : Int) % 4 = 0 := by omega
  have HROW := Lib.hid (owns_kept (owns_kept H.out.row HQ.out (fun _ _ x => x)) ((Only.refl (fun _ => False) wd).alloc (.cells #[.int .u8 0] 5)) (fun _ _ x => x))
  have HL := Lib.hid (packed_length L)
  have HNE : Hid (∀ k, v.ownBlock = some k -> k ≠ lb) := fun k e => by
   obtain ⟨c, hh⟩ := own_blk H.out.row e
   exact (ne_type H.out.box hh (by decide)).symm
  go_wp2_with (at_builtin; refine app elem_u8 rfl (.tmp 24) (.tmp 25) rfl rfl HROW.out rfl (zero_rd _ 5) (one_bytes [0]) (by rw [HL.out]; unfold maxLen; omega) (by rw [HL.out]; omega) ?_)
  intro v4 w4 hg4
  have b4 := hg4.only.get ((HQ.out.alloc _).get H.out.box (fun x => x)) (fun e => HNE.out lb e rfl)
  obtain ⟨A4, c4, hv4, _, _, _⟩ := own_form hg4.own
  subst hv4
  have s1 := cell_of b4 1
  have s2 := cell_of b4 2
  have s3 := fun o => frozen_of b4 o
  simp only [zGA, zGS, zGZ] at s1 s2
  have HG := Lib.hid (H.out.grow HQ.out h4 hg4 hm _ rfl)
  clear hg4 b4 q1 q2 hf HROW HL HNX HN2
  go_wp2_with fail
  refine (log_set (i := L.length) (s := 1) HG.out.2 (by simp) (by omega)).mono ?_
  rintro e w5 ⟨rfl, ho5, hl5⟩
  rw [set_snoc] at hl5
  have HP : Hid (BeginPost w F lb L (.returned (.tuple #[.int .u64 ((L.length : Int) + 1), .int .i64 0])) w5) :=
   ⟨rfl, HG.out.1.trans' ho5 (fun k hk x => by rcases x with x | x; exact x; omega), _, hl5⟩
  clear ho5 hl5 HG
  go_wp2
  go_ret2
  exact HP.out
 ·have d4 : ¬ (L.length : Int) % 4 = 0 := by omega
  have HG := Lib.hid (H.out.count HQ.out h4 hm _ rfl)
  clear HNX HN2 h4
  go_wp2_with fail
  refine (log_set (i := L.length) (s := 1) HG.out.2 (by simp) (by omega)).mono ?_
  rintro e w5 ⟨rfl, ho5, hl5⟩
  rw [set_snoc] at hl5
  have HP : Hid (BeginPost w F lb L (.returned (.tuple #[.int .u64 ((L.length : Int) + 1), .int .i64 0])) w5) :=
   ⟨rfl, HG.out.1.trans' ho5 (fun k hk x => by rcases x with x | x; exact x; omega), _, hl5⟩
  clear ho5 hl5 HG
  go_wp2
  go_ret2
  exact HP.out
end Go.Proofs.YthipgglplneijaaGreatDoor
namespace Go.Proofs.YthipgglplneijaaGreatDoor
open Go.RowKit Go.Lap Go.Maps
theorem laidOutS : laidOutB Tryz.prog = true := by kernel_rfl
theorem row_tid : (43 : TypeId) < Tryz.prog.types.size := of_decide_eq_true (by kernel_rfl)
theorem wide_tid : (match Tryz.prog.underlying 43 with | some (.array _ _) | some (.struct _) => true | _ => false) = true := by kernel_rfl
theorem keyed_tid : Keyed Tryz.prog 43 := Keyed.of_law (deep_law_laid laidOutS (m := 2) (by omega) row_tid (by kernel_rfl) wide_tid)
def klT (p : Int × Int) : Lit := .string (keyBytes [.int .i64 p.1, .int .i64 p.2])
def Wf (p : Int × Int) : Prop := (Lit.int .i64 p.1).wf = true /\ (Lit.int .i64 p.2).wf = true
theorem cells_tidS : Tryz.prog.cellsOf 43 = 2 := by kernel_rfl
theorem cells_intS : Tryz.prog.cellsOf 3 = 1 := by kernel_rfl
theorem keyLits_tid (d : Nat) {p : Int × Int} (h : Wf p) : Tryz.prog.keyLits (d + 2) 43 [.int .i64 p.1, .int .i64 p.2] = some [.int .i64 p.1, .int .i64 p.2] := by
 obtain ⟨h1, h2⟩ := h
 have hu := Tryz.underlying43
 have hi := Tryz.underlying3
 unfold Program.keyLits
 simp only [hu]
 rw [if_pos ⟨by rw [cells_tidS]; rfl, by kernel_rfl⟩]
 simp only [List.mapM_cons, List.mapM_nil, cells_intS]
 simp [Program.keyLits, hi, h1, h2]
theorem keyOf_tid {p : Int × Int} (h : Wf p) : keyOf Tryz.prog 43 (.agg #[.int .i64 p.1, .int .i64 p.2]) = some (klT p) := by
 have hk : Tryz.prog.keyType 43 = true := by kernel_rfl
 have hu := Tryz.underlying43
 obtain ⟨m, hm⟩ : ∃ m, Tryz.prog.types.size + 1 = m + 2 := by
  have h1 : 1 <= Tryz.prog.types.size := of_decide_eq_true (by kernel_rfl)
  generalize Tryz.prog.types.size = k at h1
  exact ⟨k - 1, by omega⟩
 unfold keyOf
 simp only [hu]
 rw [if_pos (by simp [hk, Value.formed, hu, cells_tidS]), hm]
 simp only [Value.cells]
 rw [keyLits_tid m h]
 rfl
theorem klT_inj {p q : Int × Int} (hp : Wf p) (hq : Wf q) (h : klT p = klT q) : p = q := by
 have := keyed_tid.inj (keyOf_tid hp) (by rw [h]; exact keyOf_tid hq)
 injection this with this
 injection this with this
 simp at this
 exact Prod.ext this.1 this.2
theorem plainElem_bool_inv {P : Program} {e : TypeId} (he : P.underlying e = some .bool) {v : Value} {z : DataW Unit × List MemPlace} (h : plainElem P e v = some z) : ∃ a, v = .bool a /\ z = (.lit (.bool a), []) := by
 unfold plainElem at h
 rw [he] at h
 cases v <;> simp at h
 subst h
 exact ⟨_, rfl, rfl⟩
theorem zero_boolS (w : World) : (zeroValue 4).run Tryz.prog w = .ok (.bool false) w := by kernel_rfl
def SeenAt (w : World) (m : Nat) (l : List (Int × Int)) : Prop :=
 ∃ D : DataW Unit, w.ownsMap Tryz.prog 43 (plainElem Tryz.prog 4) m l.length D /\ IsMap D /\ ∀ p, Wf p -> D.atKey (klT p) (.lit (.bool false)) = .lit (.bool (decide (p ∈ l)))
theorem SeenAt.kept {S : Nat -> Prop} {w w' : World} {m : Nat} {l : List (Int × Int)} (h : SeenAt w m l) (ho : Only S w w') (hn : ¬ S m) : SeenAt w' m l := by
 obtain ⟨D, ⟨es, clock, h1, r⟩, h2⟩ := h
 exact ⟨D, ⟨es, clock, ho.get h1 hn, r⟩, h2⟩
theorem seen_made (w : World) : SeenAt (w.alloc (.map #[] 0)) w.heap.size [] :=
 ⟨.map [], World.ownsMap_made _ _ _ _, isMap_empty, fun p _ => rfl⟩
theorem SeenAt.lookup {w : World} {m : Nat} {l : List (Int × Int)} (h : SeenAt w m l) {p : Int × Int} (hp : Wf p) :
  (Instr.lookup 271 (.map (some m)) (.agg #[.int .i64 p.1, .int .i64 p.2]) false).run Tryz.prog w = .ok (.bool (decide (p ∈ l))) w := by
 obtain ⟨D, h1, _, h3⟩ := h
 obtain ⟨v, ps, hrun, hv⟩ := h1.lookup keyed_tid Tryz.underlying271 (zero_boolS w) (plainElem_bool Tryz.underlying4 false) (keyOf_tid hp)
 rw [h3 p hp] at hv
 obtain ⟨a, rfl, hz⟩ := plainElem_bool_inv Tryz.underlying4 hv
 injection hz with hz _
 injection hz with hz
 injection hz with hz
 rw [hrun, hz]
theorem SeenAt.update {w : World} {m : Nat} {l : List (Int × Int)} (h : SeenAt w m l) {p : Int × Int} (hp : Wf p) (hl : l.length < maxLen) :
  ∃ w', (Instr.mapUpdate 271 (.map (some m)) (.agg #[.int .i64 p.1, .int .i64 p.2]) (.bool true)).run Tryz.prog w = .ok () w' /\ SeenAt w' m (l ++ [p]) /\ Only (· = m) w w' := by
 obtain ⟨D, h1, h2, h3⟩ := h
 obtain ⟨w', hrun, ho, hg⟩ := h1.update keyed_tid Tryz.underlying271 hl (keyOf_tid hp) (plainElem_bool Tryz.underlying4 true)
 refine ⟨w', hrun, ⟨_, by rw [List.length_append]; exact ho, h2.put _ _, fun q hq => ?_⟩, (Only.refl _ _).byMap hg (fun _ => rfl)⟩
 by_cases e : q = p
 ·subst e
  rw [atKey_put_same h2 (keyed_tid.key (keyOf_tid hq))]
  simp
 ·rw [atKey_put_other (fun x => e (klT_inj hq hp x)), h3 q hq]
  simp [e]
section
variable {w : World} {ops : Array Oper} {rest : List Oper} {o : Oper} {a : Act} {Q : Exit -> Act -> World -> Prop}
theorem seen_look {b : Nat} {l : List (Int × Int)} {p : Int × Int} (hg : o.guard = none) (m x : Operand) (hop : o.op = Op.lookup 271 m x false) (hm : a.eval m = .map (some b)) (hx : a.eval x = .agg #[.int .i64 p.1, .int .i64 p.2])
  (h : SeenAt w b l) (hp : Wf p) {r : Bool} (hr : decide (p ∈ l) = r) (hK : wpList Tryz.prog ops Q rest (a.put o.dst (.bool r)) w) : wpList Tryz.prog ops Q (o :: rest) a w := by
 refine wpList_plain hg fun K' hK' => ?_
 have hrun := h.lookup hp
 rw [hr] at hrun
 unfold Oper.wp
 simp [execOp, hop, hm, hx, hrun, Result.andThen]
 exact hK' _ _ hK
theorem seen_put {b : Nat} {l : List (Int × Int)} {p : Int × Int} (hg : o.guard = none) (m x v : Operand) (hop : o.op = Op.mapUpdate 271 m x v) (hm : a.eval m = .map (some b)) (hx : a.eval x = .agg #[.int .i64 p.1, .int .i64 p.2]) (hv : a.eval v = .bool true)
  (h : SeenAt w b l) (hp : Wf p) (hl : l.length < maxLen) (hK : ∀ w', SeenAt w' b (l ++ [p]) -> Only (· = b) w w' -> wpList Tryz.prog ops Q rest (a.put o.dst undef) w') : wpList Tryz.prog ops Q (o :: rest) a w := by
 refine wpList_plain hg fun K' hK' => ?_
 obtain ⟨w', hrun, h1, h2⟩ := h.update hp hl
 unfold Oper.wp
 simp [execOp, hop, hm, hx, hv, hrun, Result.andThen]
 exact hK' _ _ (hK w' h1 h2)
end
end Go.Proofs.YthipgglplneijaaGreatDoor
namespace Go.Lap
def tidsV (l : List (Int × Int)) : List Value := l.flatMap (fun p => [.int .i64 p.1, .int .i64 p.2])
theorem tidsV_cons (p : Int × Int) (l : List (Int × Int)) : tidsV (p :: l) = .int .i64 p.1 :: .int .i64 p.2 :: tidsV l := rfl
theorem tidsV_append (l m : List (Int × Int)) : tidsV (l ++ m) = tidsV l ++ tidsV m := by simp [tidsV]
theorem tidsV_get {l : List (Int × Int)} {j : Nat} {p : Int × Int} (h : l[j]? = some p) : (tidsV l)[j * 2]? = some (.int .i64 p.1) /\ (tidsV l)[j * 2 + 1]? = some (.int .i64 p.2) := by
 induction l generalizing j with
 | nil => simp at h
 | cons q l ih =>
  rcases j with _ | j
  ·simp at h
   subst h
   exact ⟨rfl, rfl⟩
  ·rw [List.getElem?_cons_succ] at h
   obtain ⟨h1, h2⟩ := ih h
   rw [tidsV_cons, show (j + 1) * 2 = j * 2 + 1 + 1 by omega]
   exact ⟨h1, h2⟩
theorem one_tids (l : List (Int × Int)) : ∀ u ∈ tidsV l, u.oneCell' = true := by
 intro u hu
 unfold tidsV at hu
 rw [List.mem_flatMap] at hu
 obtain ⟨p, _, hp⟩ := hu
 simp at hp
 rcases hp with rfl | rfl <;> rfl
end Go.Lap
namespace Go.Proofs.YthipgglplneijaaGreatDoor
open Go.RowKit Go.Lap
theorem elem_tid : Elem Tryz.prog 97 43 2 16 := Elem.mk' (.agg #[.int .i64 0, .int .i64 0]) Tryz.underlying97 (by kernel_rfl) rfl (by decide)
abbrev TidsAt (w : World) (v : Value) (l : List (Int × Int)) : Prop := w.ownsRow 0 43 2 v l.length (tidsV l)
theorem tids_new (w : World) (p : Int × Int) : Rd (w.alloc (.cells #[.int .i64 p.1, .int .i64 p.2] 43)) (fun _ => True) 2 (some ⟨w.heap.size, 0, none⟩) 1 (tidsV [p]) := Rd.new w 2 1 (tidsV [p]) _ _ rfl trivial
section
variable {w W W' : World} {K K' : Nat -> Prop} {hb pb : Nat} {H : List (List (Option Tup))} {left : Nat}
end
theorem zero_cells {w : World} {b : Nat} {t : TypeId} {fr : Nat × Nat} (h : w.heap[b]? = some (.cells #[.int .u64 0, .int .u64 0, .int .u64 0, .int .i64 0, .int .i64 0, .slice none 0 0] t fr)) :
  w.cell? ⟨b, 0, none⟩ = some (.int .u64 0) /\ w.cell? ⟨b, 1, none⟩ = some (.int .u64 0) /\ w.cell? ⟨b, 2, none⟩ = some (.int .u64 0) /\ w.cell? ⟨b, 3, none⟩ = some (.int .i64 0) /\ w.cell? ⟨b, 4, none⟩ = some (.int .i64 0) /\ w.cell? ⟨b, 5, none⟩ = some (.slice none 0 0) :=
 ⟨by rw [cell_of h]; rfl, by rw [cell_of h]; rfl, by rw [cell_of h]; rfl, by rw [cell_of h]; rfl, by rw [cell_of h]; rfl, by rw [cell_of h]; rfl⟩
theorem get_start (w : World) (pg sl : Int) : Quiet w ((w.alloc (.cells #[.int .i64 pg, .int .i64 sl] 43)).alloc (.cells #[.int .u64 0, .int .u64 0, .int .u64 0, .int .i64 0, .int .i64 0, .slice none 0 0] 95)) ∧
  ((w.alloc (.cells #[.int .i64 pg, .int .i64 sl] 43)).alloc (.cells #[.int .u64 0, .int .u64 0, .int .u64 0, .int .i64 0, .int .i64 0, .slice none 0 0] 95)).heap[w.heap.size]? = some (.cells #[.int .i64 pg, .int .i64 sl] 43 (0, 0)) ∧
  ((w.alloc (.cells #[.int .i64 pg, .int .i64 sl] 43)).alloc (.cells #[.int .u64 0, .int .u64 0, .int .u64 0, .int .i64 0, .int .i64 0, .slice none 0 0] 95)).heap[w.heap.size + 1]? = some (.cells #[.int .u64 0, .int .u64 0, .int .u64 0, .int .i64 0, .int .i64 0, .slice none 0 0] 95 (0, 0)) :=
 ⟨((Only.refl _ _).alloc _).alloc _, alloc_old (alloc_new _ _) _, two_new _ _ _⟩
set_option maxHeartbeats 1000000 in
theorem heap_get_no (h0 pp : Option Addr) (pg sl : Int) (w : World) (hpg : ∀ W : World, Quiet w W -> Calls Tryz.prog 71 #[.pointer h0, .int .i64 pg] W fun e w' => e = .returned (.pointer pp) /\ W = w')
  (hgt : ∀ W : World, Quiet w W -> Calls Tryz.prog 89 #[.pointer pp, .int .i64 sl] W (GetNone W)) :
  Calls Tryz.prog 44 #[.pointer h0, .agg #[.int .i64 pg, .int .i64 sl]] w (GetNone w) := by
 have HPG := Lib.hid hpg
 have HGT := Lib.hid hgt
 have H0 := Lib.hid (get_start w pg sl)
 clear hpg hgt
 go_enter Tryz.func44, Tryz.ntmps44
 go_wp2_with fail
 go_region_held3 (fun w' => w'.cell? ⟨w.heap.size, 0, none⟩ = some (.int .i64 pg) /\ w'.cell? ⟨w.heap.size, 1, none⟩ = some (.int .i64 sl))
  (first | go_keep | exact tid_on (by exact H0.out.2.1) hq3 (fun x => x) | fail)
  (first
    | (go_at_call 71; go_must (refine (HPG.out _ (H0.out.1.drew)).mono ?_; rintro e w2 ⟨rfl, rfl⟩))
    | (go_at_call 89; go_must (refine (HGT.out _ (H0.out.1.drew)).mono ?_; rintro e w3 ⟨rfl, hq3⟩; have hr3 := hq3.get (by exact H0.out.2.2) (fun x => x); obtain ⟨z0, z1, z2, z3, z4, z5⟩ := zero_cells hr3; have zf := fun o => frozen_of hr3 o))
    | fail)
 have HX := Lib.hid (sixSet_same hr3 (.int .u64 0) (.int .u64 0) (.int .u64 0) (.int .i64 0) (.int .i64 0) (.slice none 0 0))
 have HQ : Hid (Quiet w (sixSet w3 (w.heap.size + 1) (.int .u64 0) (.int .u64 0) (.int .u64 0) (.int .i64 0) (.int .i64 0) (.slice none 0 0))) := (H0.out.1.drew.trans hq3).trans' (sixSet_only _ _ _ _ _ _ _ _) (fun k hk e => by omega)
 clear hq3 hr3 HPG HGT H0 z0 z1 z2 z3 z4 z5 zf
 unfold sixSet at HX HQ
 go_wp2
 generalize ((((((w3.setCell ⟨w.heap.size + 1, 0, none⟩ (.int .u64 0)).setCell ⟨w.heap.size + 1, 1, none⟩ (.int .u64 0)).setCell ⟨w.heap.size + 1, 2, none⟩ (.int .u64 0)).setCell ⟨w.heap.size + 1, 3, none⟩ (.int .i64 0)).setCell ⟨w.heap.size + 1, 4, none⟩ (.int .i64 0)).setCell ⟨w.heap.size + 1, 5, none⟩ (.slice none 0 0)) = W6 at HX HQ ⊢
 exact bodyPost_ret (results_cell_tmp Tryz.results44 _ _ (w.heap.size + 1) _ _ (0, 0) _ (by rfl) HX.out Tryz.underlying95 rfl info_tup) (by rfl) ⟨rfl, HQ.out⟩
theorem fresh_on1 {w W1 w5 W6 : World} {v : Value} {l : List Nat} (hq : Quiet w W1) (hs : w.heap.size + 1 < W1.heap.size) (h : Fresh W1 w5 v l) (ho : Only (· = w.heap.size + 1) w5 W6) : Fresh w W6 v l := by
 have hz := hq.size
 exact ⟨(hq.trans h.quiet).trans' ho (fun k hk e => by omega), fun k e => by have := h.new k e; omega, owns_kept h.own ho (fun k e x => by have := h.new k e; omega)⟩
set_option maxHeartbeats 1000000 in
theorem heap_get_yes (h0 pp : Option Addr) (pg sl : Int) (t : Tup) (w : World) (hpg : ∀ W : World, Quiet w W -> Calls Tryz.prog 71 #[.pointer h0, .int .i64 pg] W fun e w' => e = .returned (.pointer pp) /\ W = w')
  (hgt : ∀ W : World, Quiet w W -> Calls Tryz.prog 89 #[.pointer pp, .int .i64 sl] W (GetSome W t)) :
  Calls Tryz.prog 44 #[.pointer h0, .agg #[.int .i64 pg, .int .i64 sl]] w (GetSome w t) := by
 have HPG := Lib.hid hpg
 have HGT := Lib.hid hgt
 have H0 := Lib.hid (get_start w pg sl)
 clear hpg hgt
 go_enter Tryz.func44, Tryz.ntmps44
 go_wp2_with fail
 go_region_held3 (fun w' => w'.cell? ⟨w.heap.size, 0, none⟩ = some (.int .i64 pg) /\ w'.cell? ⟨w.heap.size, 1, none⟩ = some (.int .i64 sl))
  (first | go_keep | exact tid_on (by exact H0.out.2.1) hf3.quiet (fun x => x) | fail)
  (first
    | (go_at_call 71; go_must (refine (HPG.out _ (H0.out.1.drew)).mono ?_; rintro e w2 ⟨rfl, rfl⟩))
    | (go_at_call 89; go_must (refine (HGT.out _ (H0.out.1.drew)).mono ?_; rintro e w3 ⟨A3, c3, rfl, hf3⟩; unfold tupV; have hr3 := hf3.quiet.get (by exact H0.out.2.2) (fun x => x); obtain ⟨z0, z1, z2, z3, z4, z5⟩ := zero_cells hr3; have zf := fun o => frozen_of hr3 o))
    | fail)
 have HX := Lib.hid (sixSet_same hr3 (.int .u64 t.row) (.int .u64 t.xmin) (.int .u64 t.xmax) (.int .i64 t.pg) (.int .i64 t.sl) (.slice A3 t.data.length c3))
 have HQ := Lib.hid (fresh_on1 H0.out.1.drew (by show w.heap.size + 1 < ((w.alloc _).alloc _).heap.size; simp) hf3 (sixSet_only w3 (w.heap.size + 1) (.int .u64 t.row) (.int .u64 t.xmin) (.int .u64 t.xmax) (.int .i64 t.pg) (.int .i64 t.sl) (.slice A3 t.data.length c3)))
 clear hf3 hr3 HPG HGT H0 z0 z1 z2 z3 z4 z5 zf
 unfold sixSet at HX HQ
 go_wp2
 generalize ((((((w3.setCell ⟨w.heap.size + 1, 0, none⟩ (.int .u64 t.row)).setCell ⟨w.heap.size + 1, 1, none⟩ (.int .u64 t.xmin)).setCell ⟨w.heap.size + 1, 2, none⟩ (.int .u64 t.xmax)).setCell ⟨w.heap.size + 1, 3, none⟩ (.int .i64 t.pg)).setCell ⟨w.heap.size + 1, 4, none⟩ (.int .i64 t.sl)).setCell ⟨w.heap.size + 1, 5, none⟩ (.slice A3 t.data.length c3)) = W6 at HX HQ ⊢
 exact bodyPost_ret (results_cell_tmp Tryz.results44 _ _ (w.heap.size + 1) _ _ (0, 0) _ (by rfl) HX.out Tryz.underlying95 rfl info_tup) (by rfl) (getSome_mk HQ.out)
section
variable {w : World} {hb pb : Nat} {F : Nat -> Prop} {H : List (List (Option Tup))}
theorem heap_get_none (pg sl : Int) (h : HeapIs w hb pb F H) (hg : hGet H pg sl = none) : Calls Tryz.prog 44 #[.pointer (some ⟨hb, 0, none⟩), .agg #[.int .i64 pg, .int .i64 sl]] w (GetNone w) := by
 obtain ⟨v, ps, rb, h⟩ := h
 by_cases hn : pg < 0 ∨ (H.length : Int) <= pg
 ·exact heap_get_no _ none pg sl w (fun W hq => heap_page_none pg (h.kept hq (fun _ _ x => x)) hn) (fun W _ => page_get_nil sl W)
 ·obtain ⟨k, rfl⟩ := Int.eq_ofNat_of_zero_le (show 0 <= pg by omega)
  obtain ⟨T, hT⟩ : ∃ T, H[k]? = some T := ⟨_, List.getElem?_eq_getElem (show k < H.length by omega)⟩
  obtain ⟨p, hp, hpt⟩ := h.pg k T hT
  rw [hGet_in sl hT] at hg
  exact heap_get_no _ (some ⟨p, 0, none⟩) k sl w (fun W hq => heap_page_some k p (h.kept hq (fun _ _ x => x)) hp) (fun W hq => pageT_get_none p T sl W (hpt.kept hq (fun x => x)) hg)
theorem heap_get_some (pg sl : Int) (t : Tup) (h : HeapIs w hb pb F H) (hg : hGet H pg sl = some t) : Calls Tryz.prog 44 #[.pointer (some ⟨hb, 0, none⟩), .agg #[.int .i64 pg, .int .i64 sl]] w (GetSome w t) := by
 obtain ⟨v, ps, rb, h⟩ := h
 have hn : ¬ (pg < 0 ∨ (H.length : Int) <= pg) := fun x => by rw [hGet_out x] at hg; cases hg
 obtain ⟨k, rfl⟩ := Int.eq_ofNat_of_zero_le (show 0 <= pg by omega)
 obtain ⟨T, hT⟩ : ∃ T, H[k]? = some T := ⟨_, List.getElem?_eq_getElem (show k < H.length by omega)⟩
 obtain ⟨p, hp, hpt⟩ := h.pg k T hT
 rw [hGet_in sl hT] at hg
 exact heap_get_yes _ (some ⟨p, 0, none⟩) k sl t w (fun W hq => heap_page_some k p (h.kept hq (fun _ _ x => x)) hp) (fun W hq => pageT_get_some p t T sl W (hpt.kept hq (fun x => x)) hg)
theorem stamp_start (w : World) (pg sl npg nsl : Int) : Quiet w ((w.alloc (.cells #[.int .i64 pg, .int .i64 sl] 43)).alloc (.cells #[.int .i64 npg, .int .i64 nsl] 43)) ∧
  ((w.alloc (.cells #[.int .i64 pg, .int .i64 sl] 43)).alloc (.cells #[.int .i64 npg, .int .i64 nsl] 43)).heap[w.heap.size]? = some (.cells #[.int .i64 pg, .int .i64 sl] 43 (0, 0)) ∧
  ((w.alloc (.cells #[.int .i64 pg, .int .i64 sl] 43)).alloc (.cells #[.int .i64 npg, .int .i64 nsl] 43)).heap[w.heap.size + 1]? = some (.cells #[.int .i64 npg, .int .i64 nsl] 43 (0, 0)) :=
 ⟨((Only.refl _ _).alloc _).alloc _, alloc_old (alloc_new _ _) _, two_new _ _ _⟩
set_option maxHeartbeats 400000 in
theorem heap_stamp_out (pg sl : Int) (x : Nat) (npg nsl : Int) (h : HeapIs w hb pb F H) (hn : pg < 0 ∨ (H.length : Int) <= pg) :
  Calls Tryz.prog 36 #[.pointer (some ⟨hb, 0, none⟩), .agg #[.int .i64 pg, .int .i64 sl], .int .u64 (x : Int), .agg #[.int .i64 npg, .int .i64 nsl]] w fun e w' => e = .returned (.int .i64 (pStampT [] sl x npg nsl).1) /\ Quiet w w' := by
 obtain ⟨v, ps, rb, h⟩ := h
 have H0 := Lib.hid (stamp_start w pg sl npg nsl)
 have HPG := Lib.hid (heap_page_none pg (h.kept H0.out.1 (fun _ _ x => x)) hn)
 clear h hn
 go_enter Tryz.func36, Tryz.ntmps36
 go_wp2_with fail
 refine HPG.out.mono ?_
 rintro e w1 ⟨rfl, rfl⟩
 go_wp2_with fail
 refine (pageT_new _).mono ?_
 rintro e w2 ⟨rfl, hq2, hs2, hp2⟩
 have HQ2 := Lib.hid (H0.out.1.trans hq2)
 obtain ⟨t0, t1⟩ := tid_on H0.out.2.1 hq2 (fun x => x)
 obtain ⟨n0, n1⟩ := tid_on H0.out.2.2 hq2 (fun x => x)
 simp only [World.size_alloc] at hp2
 have HST := Lib.hid (pageT_stamp (w.heap.size + 1 + 1) [] sl x npg nsl w2 hp2)
 clear hq2 hs2 hp2 HPG H0
 go_wp2_with fail
 refine HST.out.mono ?_
 rintro e w3 ⟨rfl, ho3, hp3⟩
 go_wp2
 go_ret
 exact ⟨rfl, HQ2.out.trans' ho3 (fun k hk e => by omega)⟩
set_option maxHeartbeats 400000 in
theorem heap_stamp_in (k : Nat) (sl : Int) (x : Nat) (npg nsl : Int) (T : List (Option Tup)) (h : HeapIs w hb pb F H) (hT : H[k]? = some T) :
  Calls Tryz.prog 36 #[.pointer (some ⟨hb, 0, none⟩), .agg #[.int .i64 (k : Int), .int .i64 sl], .int .u64 (x : Int), .agg #[.int .i64 npg, .int .i64 nsl]] w fun e w' => e = .returned (.int .i64 (pStampT T sl x npg nsl).1) /\ Only F w w' /\ HeapIs w' hb pb F (H.set k (pStampT T sl x npg nsl).2) := by
 obtain ⟨v, ps, rb, h⟩ := h
 obtain ⟨p, hp, hpt⟩ := h.pg k T hT
 have hkl : k < H.length := (List.getElem?_eq_some_iff.1 hT).1
 have H0 := Lib.hid (stamp_start w k sl npg nsl)
 have hh1 := h.kept H0.out.1 (fun _ _ x => x)
 have HPG := Lib.hid (heap_page_some k p hh1 hp)
 have HST := Lib.hid (pageT_stamp p T sl x npg nsl _ (hpt.kept H0.out.1 (fun x => x)))
 have HH := Lib.hid hh1
 have HHP := Lib.hid hp
 have hR : (H.set k (pStampT T sl x npg nsl).2).map roomT = H.map roomT := by
  rw [List.map_set, pStamp_room]
  apply List.ext_getElem?
  intro j
  rw [List.getElem?_set]
  by_cases e : k = j
  ·subst e
   rw [if_pos rfl, if_pos (by simpa using hkl), List.getElem?_map, hT]; rfl
  ·rw [if_neg e]
 have HR := Lib.hid hR
 clear h hh1 hp hpt hT hR
 go_enter Tryz.func36, Tryz.ntmps36
 go_wp2_with fail
 refine HPG.out.mono ?_
 rintro e w1 ⟨rfl, rfl⟩
 go_wp2_with fail
 refine HST.out.mono ?_
 rintro e w3 ⟨rfl, ho3, hp3⟩
 have HH3 := Lib.hid (HH.out.turn HHP.out ho3 hp3)
 have HO3 : Hid (Only F w w3) := (H0.out.1.mono (T := F) (fun _ _ x => x.elim)).trans' ho3 (fun j _ e => by subst e; exact HH.out.foot.2.2.1 j (List.mem_of_getElem? HHP.out))
 clear ho3 hp3
 go_wp2
 go_ret
 exact ⟨rfl, HO3.out, _, _, _, by rw [HR.out]; exact HH3.out⟩
theorem heap_stamp (pg sl : Int) (x : Nat) (npg nsl : Int) (h : HeapIs w hb pb F H) :
  Calls Tryz.prog 36 #[.pointer (some ⟨hb, 0, none⟩), .agg #[.int .i64 pg, .int .i64 sl], .int .u64 (x : Int), .agg #[.int .i64 npg, .int .i64 nsl]] w fun e w' => e = .returned (.int .i64 (hStamp H pg sl x npg nsl).1) /\ Only F w w' /\ HeapIs w' hb pb F (hStamp H pg sl x npg nsl).2 := by
 by_cases hn : pg < 0 ∨ (H.length : Int) <= pg
 ·have e : hStamp H pg sl x npg nsl = ((pStampT [] sl x npg nsl).1, H) := by unfold hStamp; rw [if_pos hn]
  rw [e]
  refine (heap_stamp_out pg sl x npg nsl h hn).mono ?_
  rintro e w' ⟨rfl, hq⟩
  exact ⟨rfl, hq.mono (fun _ _ x => x.elim), h.kept hq (fun _ _ x => x)⟩
 ·obtain ⟨k, rfl⟩ := Int.eq_ofNat_of_zero_le (show 0 <= pg by omega)
  obtain ⟨T, hT⟩ : ∃ T, H[k]? = some T := ⟨_, List.getElem?_eq_getElem (show k < H.length by omega)⟩
  have e : hStamp H (k : Int) sl x npg nsl = ((pStampT T sl x npg nsl).1, H.set k (pStampT T sl x npg nsl).2) := by
   unfold hStamp
   rw [if_neg hn, Int.toNat_natCast, getD_of hT]
  rw [e]
  exact heap_stamp_in k sl x npg nsl T h hT
end
theorem wf_i64' {z : Int} (h : -9223372036854775808 <= z /\ z < 9223372036854775808) : (Lit.int .i64 z).wf = true := WalkArith.wf_i64 (by omega)
theorem far_bounds {pg sl : Int} (h : farB pg sl = false) : -1 <= pg /\ pg < 65536 /\ -1 <= sl /\ sl < 65536 := by
 unfold farB at h
 split at h
 ·have := of_decide_eq_false h
  omega
 ·have := of_decide_eq_false h
  omega
def sliceLen : Value -> Nat
 | .slice _ n _ => n
 | _ => 0
section
variable {w wr w' : World} {v : Value} {out : List (Int × Int)} {p : Int × Int}
end
def ChainPost (w : World) (l : List (Int × Int)) (e : Ending) (w' : World) : Prop := ∃ v, e = .returned v /\ Quiet w w' /\ (∀ k, v.ownBlock = some k -> w.heap.size <= k) /\ TidsAt w' v l
end Go.Proofs.YthipgglplneijaaGreatDoor
namespace Go.Lap
def placesTo (pg : Int) (T : List (Option Tup)) (k : Nat) : List (Int × Int) := (List.range k).filterMap (fun s : Nat => if ((T[s]?).join).isSome then some (pg, (s : Int)) else none)
theorem placesTo_none {pg : Int} {T : List (Option Tup)} {k : Nat} (h : (T[k]?).join = none) : placesTo pg T (k + 1) = placesTo pg T k := by
 unfold placesTo
 rw [List.range_succ, List.filterMap_append]
 simp [h]
theorem placesTo_some {pg : Int} {T : List (Option Tup)} {k : Nat} {t : Tup} (h : (T[k]?).join = some t) : placesTo pg T (k + 1) = placesTo pg T k ++ [(pg, (k : Int))] := by
 unfold placesTo
 rw [List.range_succ, List.filterMap_append]
 simp [h]
theorem placesTo_length (pg : Int) (T : List (Option Tup)) (k : Nat) : (placesTo pg T k).length <= k := by
 unfold placesTo
 exact Nat.le_trans (List.length_filterMap_le _ _) (by simp)
theorem mem_placesTo {pg : Int} {T : List (Option Tup)} {k : Nat} {p : Int × Int} (h : p ∈ placesTo pg T k) : p.1 = pg /\ ∃ t, tupAt T p.2 = some t := by
 unfold placesTo at h
 rw [List.mem_filterMap] at h
 obtain ⟨s, _, hs⟩ := h
 split at hs
 ·rename_i h2
  injection hs with hs
  subst hs
  obtain ⟨t, ht⟩ := Option.isSome_iff_exists.1 h2
  exact ⟨rfl, t, by rw [tupAt_nat]; exact ht⟩
 ·cases hs
end Go.Lap
namespace Go.Proofs.YthipgglplneijaaGreatDoor
open Go.RowKit Go.Lap
structure TidsW (w wr : World) (v : Value) (l : List (Int × Int)) : Prop where
 quiet : Quiet w wr
 row : TidsAt wr v l
 own : ∀ k, v.ownBlock = some k -> w.heap.size <= k
section
variable {w wr w' : World} {v : Value} {l : List (Int × Int)}
theorem TidsW.start (h : Quiet w wr) : TidsW w wr (.slice none 0 0) [] := ⟨h, World.ownsRow_nil _ _ _ _, (fun _ x => by cases x)⟩
theorem TidsW.quietly (h : TidsW w wr v l) (hq : Quiet wr w') : TidsW w w' v l := ⟨h.quiet.trans hq, owns_kept h.row hq (fun _ _ x => x), h.own⟩
theorem TidsW.step {w4 : World} {v' : Value} {p : Int × Int} (h : TidsW w wr v l) (hg : Grew (wr.alloc (.cells #[.int .i64 p.1, .int .i64 p.2] 43)) w4 43 2 v v' (l.length + 1) (tidsV l ++ tidsV [p])) : TidsW w w4 v' (l ++ [p]) := by
 have hsz := h.quiet.size
 refine ⟨(h.quiet.alloc _).trans' hg.only (fun k hk e => by have := h.own k e; omega), ?_, fun k e => ?_⟩
 ·unfold TidsAt
  rw [List.length_append, tidsV_append]
  exact hg.own
 ·rcases hg.loc with x | x
  ·rw [x] at e; exact h.own k e
  ·rw [x] at e; injection e with e; simp only [World.size_alloc] at e; omega
theorem TidsW.post (h : TidsW w wr v l) : ChainPost w l (.returned v) wr := ⟨v, rfl, h.quiet, h.own, h.row⟩
end
set_option maxHeartbeats 1000000 in
theorem plist_walk (h0 pp : Option Addr) (n : Int) (T : List (Option Tup)) (w : World) (hT : T.length <= 127)
  (hpg : ∀ W : World, Quiet w W -> Calls Tryz.prog 71 #[.pointer h0, .int .i64 n] W fun e w' => e = .returned (.pointer pp) /\ W = w')
  (hsl : ∀ W : World, Quiet w W -> Calls Tryz.prog 112 #[.pointer pp] W fun e w' => e = .returned (.int .i64 (T.length : Int)) /\ W = w')
  (hg0 : ∀ (W : World) (i : Int), Quiet w W -> tupAt T i = none -> Calls Tryz.prog 89 #[.pointer pp, .int .i64 i] W (GetNone W))
  (hg1 : ∀ (W : World) (i : Int) (t : Tup), Quiet w W -> tupAt T i = some t -> Calls Tryz.prog 89 #[.pointer pp, .int .i64 i] W (GetSome W t)) :
  Calls Tryz.prog 69 #[.pointer h0, .int .i64 n] w (ChainPost w (placesTo n T T.length)) := by
 have HPG := Lib.hid hpg
 have HSL := Lib.hid hsl
 have HG0 := Lib.hid hg0
 have HG1 := Lib.hid hg1
 obtain ⟨m, hm⟩ : ∃ m, T.length = m := ⟨_, rfl⟩
 rw [hm] at hT HSL ⊢
 have HM := Lib.hid hm
 clear hpg hsl hg0 hg1 hm
 go_enter Tryz.func69, Tryz.ntmps69
 go_wp2_with fail
 refine (HPG.out _ (Only.refl _ _)).mono ?_
 rintro e w1 ⟨rfl, rfl⟩
 go_wp2_with fail
 refine (HSL.out _ (Only.refl _ _)).mono ?_
 rintro e w1 ⟨rfl, rfl⟩
 go_wp2_with fail
 go_loopw [15, 5, 7, 8, 9] (fun c cv _ _ _ wr => ∃ (k : Nat) (v' : Value), k <= m /\ c = .int .i64 (k : Int) /\ cv = v' /\ TidsW w wr v' (placesTo n T k)) (fun c _ _ _ _ _ => m - (intOf c).toNat)
 case atStart => exact ⟨0, _, Nat.zero_le _, rfl, rfl, TidsW.start (Only.refl _ _)⟩
 case round =>
  obtain ⟨k, v', hk, rfl, rfl, hW⟩ := hrel
  have HW := Lib.hid hW
  clear hW
  by_cases hlt : k < m
  ·have hle := placesTo_length n T k
   rcases hg : tupAt T (k : Int) with _ | t
   ·have HGT := Lib.hid (HG0.out wr (k : Int) HW.out.quiet hg)
    have HP := Lib.hid (placesTo_none (pg := n) (by rw [<- tupAt_nat]; exact hg))
    clear hg
    go_wp2_with fail
    refine HGT.out.mono ?_
    rintro e w2 ⟨rfl, hq2⟩
    have HW2 := Lib.hid ((HW.out.quietly hq2).quietly ((Only.refl (fun _ => False) w2).alloc (.cells #[.int .u64 0, .int .u64 0, .int .u64 0, .int .i64 0, .int .i64 0, .slice none 0 0] 95)))
    clear hq2 HGT HW
    go_wp2
    go_roundw
    case rel => exact ⟨k + 1, _, by omega, by go_num, rfl, by rw [HP.out]; exact HW2.out⟩
    case measure => simp [intOf]; omega
   ·have HGT := Lib.hid (HG1.out wr (k : Int) t HW.out.quiet hg)
    have HP := Lib.hid (placesTo_some (pg := n) (by rw [<- tupAt_nat]; exact hg))
    obtain ⟨l, hl⟩ : ∃ l, placesTo n T k = l := ⟨_, rfl⟩
    rw [hl] at HP HW hle
    clear hg hl
    go_wp2_with fail
    refine HGT.out.mono ?_
    rintro e w2 ⟨A2, c2, rfl, hf2⟩
    unfold tupV
    have HW2 := Lib.hid ((HW.out.quietly hf2.quiet).quietly ((Only.refl (fun _ => False) w2).alloc (.cells #[.int .u64 (t.row : Int), .int .u64 (t.xmin : Int), .int .u64 (t.xmax : Int), .int .i64 t.pg, .int .i64 t.sl, .slice A2 t.data.length c2] 95)))
    clear hf2 HGT HW
    go_upto_region 8 with fail
    generalize w2.alloc (.cells #[.int .u64 (t.row : Int), .int .u64 (t.xmin : Int), .int .u64 (t.xmax : Int), .int .i64 t.pg, .int .i64 t.sl, .slice A2 t.data.length c2] 95) = wa at HW2 ⊢
    have HROW := Lib.hid (owns_kept HW2.out.row ((Only.refl (fun _ => False) wa).alloc (.cells #[.int .i64 n, .int .i64 (k : Int)] 43)) (fun _ _ x => x))
    go_wp2_with (at_builtin; refine app elem_tid rfl (.tmp 25) (.tmp 29) rfl rfl HROW.out rfl (tids_new _ (n, (k : Int))) (one_tids [(n, (k : Int))]) (by unfold maxLen; omega) (by omega) ?_)
    intro v4 w4 hg4
    have HST := Lib.hid (HW2.out.step (p := (n, (k : Int))) hg4)
    clear hg4 HROW
    go_wp2
    go_roundw
    case rel => exact ⟨k + 1, _, by omega, by go_num, rfl, by rw [HP.out]; exact HST.out⟩
    case measure => simp [intOf]; omega
  ·obtain rfl : k = m := by omega
   go_wp2
   go_ret
   exact HW.out.post
section
variable {w : World} {hb pb : Nat} {F : Nat -> Prop} {H : List (List (Option Tup))}
theorem heap_plist (k : Nat) (T : List (Option Tup)) (h : HeapIs w hb pb F H) (hT : H[k]? = some T) : Calls Tryz.prog 69 #[.pointer (some ⟨hb, 0, none⟩), .int .i64 (k : Int)] w (ChainPost w (placesTo (k : Int) T T.length)) := by
 obtain ⟨v, ps, rb, h⟩ := h
 obtain ⟨p, hp, hpt⟩ := h.pg k T hT
 exact plist_walk _ (some ⟨p, 0, none⟩) k T w hpt.len (fun W hq => heap_page_some k p (h.kept hq (fun _ _ x => x)) hp) (fun W hq => pageT_slots p T W (hpt.kept hq (fun x => x))) (fun W i hq hi => pageT_get_none p T i W (hpt.kept hq (fun x => x)) hi) (fun W i t hq hi => pageT_get_some p t T i W (hpt.kept hq (fun x => x)) hi)
end
end Go.Proofs.YthipgglplneijaaGreatDoor
namespace Go.Lap
end Go.Lap
namespace Go.Proofs.YthipgglplneijaaGreatDoor
open Go.RowKit Go.Lap
structure SnapV (w : World) (S : Nat -> Prop) (A : Option Addr) (c : Nat) (s : Snap) : Prop where
 row : Rd w S 1 A s.run.length (u64sV s.run)
 cap : s.run.length <= c /\ c <= maxLen
 num : U64 s.own /\ U64 s.xmin /\ U64 s.xmax /\ ∀ x ∈ s.run, U64 x
def snapV (s : Snap) (A : Option Addr) (c : Nat) : Value := .agg #[.int .u64 (s.own : Int), .int .u64 (s.xmin : Int), .int .u64 (s.xmax : Int), .slice A s.run.length c]
theorem SnapV.kept {S T : Nat -> Prop} {w w' : World} {A : Option Addr} {c : Nat} {s : Snap} (h : SnapV w S A c s) (ho : Only T w w') (hs : ∀ k, S k -> ¬ T k) : SnapV w' S A c s := ⟨h.row.kept ho hs, h.cap, h.num⟩
theorem SnapV.mono {S T : Nat -> Prop} {w : World} {A : Option Addr} {c : Nat} {s : Snap} (h : SnapV w S A c s) (hs : ∀ k, S k -> T k) : SnapV w T A c s := ⟨h.row.mono hs, h.cap, h.num⟩
set_option maxHeartbeats 400000 in
theorem index_u64 {S : Nat -> Prop} {A : Option Addr} {c x : Nat} {l : List Nat} {w : World} (h : Rd w S 1 A l.length (u64sV l)) (hc : l.length <= c) (hm : c <= maxLen) :
  Calls Tryz.prog 175 #[.slice A l.length c, .int .u64 (x : Int)] w fun e w' => (∃ z : Int, e = .returned (.int .i64 z) /\ decide (0 <= z) = decide (x ∈ l)) /\ w = w' := by
 unfold maxLen at hm
 obtain ⟨n, hn⟩ : ∃ n, l.length = n := ⟨_, rfl⟩
 have HR := Lib.hid h
 rw [hn] at HR hc ⊢
 have HN := Lib.hid hn
 clear h hn
 obtain ⟨POST, hP⟩ : ∃ P : Ending -> Prop, (fun e => ∃ z : Int, e = .returned (.int .i64 z) /\ decide (0 <= z) = decide (x ∈ l)) = P := ⟨_, rfl⟩
 have HP := Lib.hid hP
 show Calls _ _ _ _ fun e w' => (fun e => ∃ z : Int, e = .returned (.int .i64 z) /\ decide (0 <= z) = decide (x ∈ l)) e /\ w = w'
 rw [hP]
 clear hP
 go_enter Tryz.func175, Tryz.ntmps175
 go_wp2
 go_loop [8, 5] (fun c _ => ∃ k : Nat, k <= n /\ c = .int .i64 (k : Int) /\ ∀ j, j < k -> l[j]? ≠ some x) (fun c _ => n - (intOf c).toNat)
 case atStart => exact ⟨0, Nat.zero_le _, rfl, fun j hj => absurd hj (by omega)⟩
 case round =>
  obtain ⟨k, hk, rfl, hno⟩ := hrel
  have HNO := Lib.hid hno
  clear hno
  by_cases hlt : k < n
  ·obtain ⟨b, off, u, rfl, _, hu, hcell⟩ := HR.out.get hlt
   obtain ⟨y, hy, rfl⟩ : ∃ y, l[k]? = some y /\ u = .int .u64 (y : Int) := by
    unfold u64sV at hu
    rw [List.getElem?_map] at hu
    rcases h : l[k]? with _ | y
    ·rw [h] at hu; cases hu
    ·rw [h] at hu; injection hu with hu; exact ⟨y, rfl, hu.symm⟩
   have HY := Lib.hid hy
   clear hu hy
   by_cases hxy : x = y
   ·subst hxy
    have HE : Hid (POST (.returned (.int .i64 (k : Int)))) := by
     rw [<- HP.out]
     exact ⟨k, rfl, by rw [decide_eq_decide]; exact ⟨fun _ => List.mem_of_getElem? HY.out, fun _ => by omega⟩⟩
    go_wp2
    go_ret
    exact ⟨HE.out, rfl⟩
   ·have hne : ¬ (x : Int) = y := by omega
    have HK : Hid (∀ j, j < k + 1 -> l[j]? ≠ some x) := fun j hj e => by
     rcases Nat.lt_or_ge j k with a | a
     ·exact HNO.out j a e
     ·obtain rfl : j = k := by omega
      rw [HY.out] at e
      injection e with e
      exact hxy e.symm
    clear hxy
    go_wp2
    go_round
    case rel => exact ⟨k + 1, by omega, by go_num, HK.out⟩
    case measure => simp [intOf]; omega
  ·have HE : Hid (POST (.returned (.int .i64 (-1)))) := by
    rw [<- HP.out]
    refine ⟨-1, rfl, ?_⟩
    rw [decide_eq_decide]
    refine ⟨fun h => by omega, fun h => ?_⟩
    obtain ⟨j, hj⟩ := List.mem_iff_getElem?.1 h
    have := (List.getElem?_eq_some_iff.1 hj).1
    have hn := HN.out
    exact absurd hj (HNO.out j (by omega))
   obtain rfl : k = n := by omega
   go_wp2
   go_ret
   exact ⟨HE.out, rfl⟩
set_option maxHeartbeats 400000 in
theorem contains_u64 {S : Nat -> Prop} {A : Option Addr} {c x : Nat} {l : List Nat} {w : World} (h : Rd w S 1 A l.length (u64sV l)) (hc : l.length <= c) (hm : c <= maxLen) :
  Calls Tryz.prog 147 #[.slice A l.length c, .int .u64 (x : Int)] w fun e w' => e = .returned (.bool (decide (x ∈ l))) /\ w = w' := by
 have HX := Lib.hid (index_u64 (x := x) h hc hm)
 obtain ⟨r, hr⟩ : ∃ r, decide (x ∈ l) = r := ⟨_, rfl⟩
 rw [hr] at HX ⊢
 clear h hc hm hr
 go_enter Tryz.func147, Tryz.ntmps147
 go_wp2_with fail
 refine HX.out.mono ?_
 rintro e w1 ⟨⟨z, rfl, hz⟩, rfl⟩
 go_wp2
 go_ret
 exact ⟨rfl, rfl⟩
def BoolQ (w : World) (b : Bool) (e : Ending) (w' : World) : Prop := e = .returned (.bool b) /\ Quiet w w'
section
variable {w : World} {F S : Nat -> Prop} {lb c : Nat} {L : List Nat} {A : Option Addr} {s : Snap}
set_option maxHeartbeats 1000000 in
theorem snap_sees (x : Nat) (h : LogAt w F lb L) (hs : SnapV w S A c s) (hx : U64 x) :
  Calls Tryz.prog 107 #[.pointer (some ⟨lb, 0, none⟩), snapV s A c, .int .u64 (x : Int)] w (BoolQ w (seesS L s x)) := by
 have HQ : Hid (Quiet w (w.alloc (.cells #[.int .u64 (s.own : Int), .int .u64 (s.xmin : Int), .int .u64 (s.xmax : Int), .slice A s.run.length c] 73))) := (Only.refl _ _).alloc _
 have HC := Lib.hid (contains_u64 (x := x) (hs.kept HQ.out (fun _ _ x => x)).row hs.cap.1 hs.cap.2)
 have HST := Lib.hid (log_state (h.kept HQ.out (fun _ _ x => x)) hx)
 have HS := Lib.hid (rfl : seesS L s x = seesS L s x)
 unfold snapV
 obtain ⟨n, hn⟩ : ∃ n, s.run.length = n := ⟨_, rfl⟩
 rw [hn] at HC HQ HST ⊢
 obtain ⟨r, hr⟩ : ∃ r, seesS L s x = r := ⟨_, rfl⟩
 have HR := Lib.hid hr
 rw [hr]
 clear h hs hx hn HS hr
 by_cases h1 : x = s.own
 ·have e1 : (x : Int) = s.own := by omega
  have HB := Lib.hid (show r = true by
    rw [<- HR.out]
    unfold seesS
    rw [decide_eq_true h1]; rfl)
  rw [HB.out]
  clear h1 HB HR
  go_enter Tryz.func107, Tryz.ntmps107
  go_wp2
  go_ret
  exact ⟨rfl, HQ.out⟩
 ·have e1 : ¬ (x : Int) = s.own := by omega
  by_cases h2 : x < s.xmax
  ·have d2 : decide (x < s.xmax) = true := decide_eq_true h2
   by_cases h3 : x ∈ s.run
   ·have HB := Lib.hid (show r = false by
       rw [<- HR.out]
       unfold seesS
       rw [decide_eq_false h1, decide_eq_true h3]; simp)
    rw [decide_eq_true h3] at HC
    rw [HB.out]
    clear h1 h3 HB HR
    go_enter Tryz.func107, Tryz.ntmps107
    go_wp2_with fail
    refine HC.out.mono ?_
    rintro e w1 ⟨rfl, rfl⟩
    go_wp2
    go_ret
    exact ⟨rfl, HQ.out⟩
   ·have HB := Lib.hid (show r = decide (stateL L x = 2) by
       rw [<- HR.out]
       unfold seesS
       rw [decide_eq_false h1, decide_eq_true h2, decide_eq_false h3]; simp)
    rw [decide_eq_false h3] at HC
    obtain ⟨st, hst⟩ : ∃ st, stateL L x = st := ⟨_, rfl⟩
    rw [hst] at HB HST
    rw [HB.out, show decide (st = 2) = decide ((st : Int) = 2) by rw [decide_eq_decide]; omega]
    clear h1 h3 hst HB HR
    go_enter Tryz.func107, Tryz.ntmps107
    go_wp2_with fail
    refine HC.out.mono ?_
    rintro e w1 ⟨rfl, rfl⟩
    go_wp2_with fail
    refine HST.out.mono ?_
    rintro e w1 ⟨rfl, m, rfl⟩
    go_wp2
    go_ret
    exact ⟨rfl, HQ.out.drewN m⟩
  ·have d2 : decide (x < s.xmax) = false := decide_eq_false h2
   have HB := Lib.hid (show r = false by
     rw [<- HR.out]
     unfold seesS
     rw [decide_eq_false h1, decide_eq_false h2]; simp)
   rw [HB.out]
   clear h1 HB HR
   go_enter Tryz.func107, Tryz.ntmps107
   go_wp2
   go_ret
   exact ⟨rfl, HQ.out⟩
abbrev tupCells (t : Tup) (At : Option Addr) (ct : Nat) : Array Value := #[.int .u64 t.row, .int .u64 t.xmin, .int .u64 t.xmax, .int .i64 t.pg, .int .i64 t.sl, .slice At t.data.length ct]
abbrev snapCells (s : Snap) (A : Option Addr) (c : Nat) : Array Value := #[.int .u64 (s.own : Int), .int .u64 (s.xmin : Int), .int .u64 (s.xmax : Int), .slice A s.run.length c]
set_option maxHeartbeats 1000000 in
theorem snap_visible (t : Tup) (At : Option Addr) (ct : Nat) (h : LogAt w F lb L) (hs : SnapV w S A c s) (h1 : U64 t.xmin) (h2 : U64 t.xmax) :
  Calls Tryz.prog 63 #[.pointer (some ⟨lb, 0, none⟩), snapV s A c, tupV t At ct] w (BoolQ w (visS L s t.xmin t.xmax)) := by
 have HQ : Hid (Quiet w ((w.alloc (.cells (snapCells s A c) 73)).alloc (.cells (tupCells t At ct) 95))) := ((Only.refl _ _).alloc _).alloc _
 have HS1 : Hid (∀ W, Quiet w W -> Calls Tryz.prog 107 #[.pointer (some ⟨lb, 0, none⟩), snapV s A c, .int .u64 (t.xmin : Int)] W (BoolQ W (seesS L s t.xmin))) := fun W hq => snap_sees _ (h.kept hq (fun _ _ x => x)) (hs.kept hq (fun _ _ x => x)) h1
 have HS2 : Hid (∀ W, Quiet w W -> Calls Tryz.prog 107 #[.pointer (some ⟨lb, 0, none⟩), snapV s A c, .int .u64 (t.xmax : Int)] W (BoolQ W (seesS L s t.xmax))) := fun W hq => snap_sees _ (h.kept hq (fun _ _ x => x)) (hs.kept hq (fun _ _ x => x)) h2
 have HT := Lib.hid (two_new w (.cells (snapCells s A c) 73) (.cells (tupCells t At ct) 95))
 have HN := Lib.hid (alloc_old (alloc_new w (.cells (snapCells s A c) 73)) (.cells (tupCells t At ct) 95))
 unfold visS
 unfold snapV tupV at *
 generalize seesS L s t.xmin = r1 at HS1 ⊢
 generalize seesS L s t.xmax = r2 at HS2 ⊢
 clear h hs h1 h2
 rcases r1 with _ | _
 ·go_enter Tryz.func63, Tryz.ntmps63
  go_wp2_with fail
  refine (HS1.out _ HQ.out).mono ?_
  rintro e w1 ⟨rfl, hq1⟩
  have HQ1 := Lib.hid (HQ.out.trans hq1)
  clear hq1
  go_wp2
  go_ret
  exact ⟨rfl, HQ1.out⟩
 ·by_cases h0 : t.xmax = 0
  ·have D0 := Lib.hid (show (t.xmax : Int) = 0 by omega)
   rw [decide_eq_true h0]
   clear h0
   go_enter Tryz.func63, Tryz.ntmps63
   go_wp2_with fail
   refine (HS1.out _ HQ.out).mono ?_
   rintro e w1 ⟨rfl, hq1⟩
   have HQ1 := Lib.hid (HQ.out.trans hq1)
   have b1 := hq1.get (by exact HT.out) (fun x => x)
   have c1 := cell_of b1 2
   simp only [zGA, zGS, zGZ, D0.out] at c1
   clear hq1 b1
   go_wp2
   go_ret
   exact ⟨rfl, HQ1.out⟩
  ·have d0 : ((t.xmax : Int) == 0) = false := beq_false_of_ne (by omega)
   rw [decide_eq_false h0, Bool.true_and, Bool.false_or]
   clear h0
   go_enter Tryz.func63, Tryz.ntmps63
   go_wp2_with fail
   refine (HS1.out _ HQ.out).mono ?_
   rintro e w1 ⟨rfl, hq1⟩
   have HQ1 := Lib.hid (HQ.out.trans hq1)
   have b1 := hq1.get (by exact HT.out) (fun x => x)
   have b0 := hq1.get (by exact HN.out) (fun x => x)
   have c1 := cell_of b1 2
   have a0 := cell_of b0 0
   have a1 := cell_of b0 1
   have a2 := cell_of b0 2
   have a3 := cell_of b0 3
   simp only [zGA, zGS, zGZ] at c1 a0 a1 a2 a3
   clear hq1 b1 b0
   go_wp2_with fail
   refine (HS2.out _ HQ1.out).mono ?_
   rintro e w2 ⟨rfl, hq2⟩
   have HQ2 := Lib.hid (HQ1.out.trans hq2)
   clear hq2
   go_wp2
   go_ret
   exact ⟨rfl, HQ2.out⟩
set_option maxHeartbeats 1000000 in
theorem snap_free (t : Tup) (At : Option Addr) (ct : Nat) (h : LogAt w F lb L) (hs : SnapV w S A c s) (h1 : U64 t.xmin) (h2 : U64 t.xmax) :
  Calls Tryz.prog 70 #[.pointer (some ⟨lb, 0, none⟩), snapV s A c, tupV t At ct] w fun e w' => e = .returned (.int .i64 (freeS L s t.xmin t.xmax : Int)) /\ Quiet w w' := by
 have HQ : Hid (Quiet w ((w.alloc (.cells (snapCells s A c) 73)).alloc (.cells (tupCells t At ct) 95))) := ((Only.refl _ _).alloc _).alloc _
 have HV : Hid (∀ W, Quiet w W -> Calls Tryz.prog 63 #[.pointer (some ⟨lb, 0, none⟩), snapV s A c, tupV t At ct] W (BoolQ W (visS L s t.xmin t.xmax))) := fun W hq => snap_visible t At ct (h.kept hq (fun _ _ x => x)) (hs.kept hq (fun _ _ x => x)) h1 h2
 have HST : Hid (∀ W, Quiet w W -> Calls Tryz.prog 90 #[.pointer (some ⟨lb, 0, none⟩), .int .u64 (t.xmax : Int)] W fun e w' => e = .returned (.int .i64 (stateL L t.xmax : Int)) /\ ∃ n, w' = W.drewN n) := fun W hq => log_state (h.kept hq (fun _ _ x => x)) h2
 have HT := Lib.hid (two_new w (.cells (snapCells s A c) 73) (.cells (tupCells t At ct) 95))
 have HN := Lib.hid (alloc_old (alloc_new w (.cells (snapCells s A c) 73)) (.cells (tupCells t At ct) 95))
 unfold freeS
 unfold snapV tupV at *
 generalize visS L s t.xmin t.xmax = r at HV ⊢
 generalize stateL L t.xmax = st at HST ⊢
 clear h hs h1 h2
 by_cases h0 : t.xmax = 0
 ·have d0 : ((t.xmax : Int) != 0) = false := by simp; omega
  rw [if_neg (fun x => x.1 h0)]
  clear h0 HST
  rcases r with _ | _
  all_goals
   go_enter Tryz.func70, Tryz.ntmps70
   go_wp2_with fail
   refine (HV.out _ HQ.out).mono ?_
   rintro e w1 ⟨rfl, hq1⟩
   have HQ1 := Lib.hid (HQ.out.trans hq1)
   clear hq1
   go_wp2
   go_ret
   exact ⟨rfl, HQ1.out⟩
 ·have d0 : ((t.xmax : Int) != 0) = true := by simp; omega
  by_cases ho : t.xmax = s.own
  ·have d1 : ((t.xmax : Int) != s.own) = false := by simp; omega
   rw [if_neg (fun x => x.2.1 ho)]
   clear ho h0 HST
   rcases r with _ | _
   all_goals
    go_enter Tryz.func70, Tryz.ntmps70
    go_wp2_with fail
    refine (HV.out _ HQ.out).mono ?_
    rintro e w1 ⟨rfl, hq1⟩
    have HQ1 := Lib.hid (HQ.out.trans hq1)
    clear hq1
    go_wp2
    go_ret
    exact ⟨rfl, HQ1.out⟩
  ·have d1 : ((t.xmax : Int) != s.own) = true := by simp; omega
   by_cases h3 : st = 3
   ·have d2 : ((st : Int) != 3) = false := by simp; omega
    rw [if_neg (fun x => x.2.2 h3)]
    clear ho h0 h3
    rcases r with _ | _
    all_goals
     go_enter Tryz.func70, Tryz.ntmps70
     go_wp2_with fail
     refine (HST.out _ HQ.out).mono ?_
     rintro e w1 ⟨rfl, n, rfl⟩
     go_wp2_with fail
     refine (HV.out _ (HQ.out.drewN n)).mono ?_
     rintro e w1 ⟨rfl, hq1⟩
     have HQ1 := Lib.hid ((HQ.out.drewN n).trans hq1)
     clear hq1
     go_wp2
     go_ret
     exact ⟨rfl, HQ1.out⟩
   ·have d2 : ((st : Int) != 3) = true := by simp; omega
    rw [if_pos ⟨h0, ho, h3⟩]
    clear ho h0 h3 HV
    go_enter Tryz.func70, Tryz.ntmps70
    go_wp2_with fail
    refine (HST.out _ HQ.out).mono ?_
    rintro e w1 ⟨rfl, n, rfl⟩
    go_wp2
    go_ret
    exact ⟨rfl, HQ.out.drewN n⟩
set_option maxHeartbeats 1000000 in
theorem snap_dead (t : Tup) (At : Option Addr) (ct : Nat) (hz : Nat) (h : LogAt w F lb L) (h1 : U64 t.xmin) (h2 : U64 t.xmax) :
  Calls Tryz.prog 45 #[.pointer (some ⟨lb, 0, none⟩), tupV t At ct, .int .u64 (hz : Int)] w (BoolQ w (deadS L t.xmin t.xmax hz)) := by
 have HQ : Hid (Quiet w (w.alloc (.cells (tupCells t At ct) 95))) := (Only.refl _ _).alloc _
 have HS1 : Hid (∀ W, Quiet w W -> Calls Tryz.prog 90 #[.pointer (some ⟨lb, 0, none⟩), .int .u64 (t.xmin : Int)] W fun e w' => e = .returned (.int .i64 (stateL L t.xmin : Int)) /\ ∃ n, w' = W.drewN n) := fun W hq => log_state (h.kept hq (fun _ _ x => x)) h1
 have HS2 : Hid (∀ W, Quiet w W -> Calls Tryz.prog 90 #[.pointer (some ⟨lb, 0, none⟩), .int .u64 (t.xmax : Int)] W fun e w' => e = .returned (.int .i64 (stateL L t.xmax : Int)) /\ ∃ n, w' = W.drewN n) := fun W hq => log_state (h.kept hq (fun _ _ x => x)) h2
 unfold deadS
 unfold tupV at *
 generalize stateL L t.xmin = s1 at HS1 ⊢
 generalize stateL L t.xmax = s2 at HS2 ⊢
 clear h h1 h2
 by_cases ha : s1 = 3
 ·have d0 : ((s1 : Int) == 3) = true := by simp; omega
  rw [decide_eq_true ha, Bool.true_or]
  clear ha HS2
  go_enter Tryz.func45, Tryz.ntmps45
  go_wp2_with fail
  refine (HS1.out _ HQ.out).mono ?_
  rintro e w1 ⟨rfl, n, rfl⟩
  go_wp2
  go_ret
  exact ⟨rfl, HQ.out.drewN n⟩
 ·have d0 : ((s1 : Int) == 3) = false := by simp; omega
  rw [decide_eq_false ha, Bool.false_or]
  by_cases hx : t.xmax = 0
  ·have d1 : ((t.xmax : Int) != 0) = false := by simp; omega
   rw [decide_eq_false (show ¬ t.xmax ≠ 0 from fun x => x hx), Bool.false_and, Bool.false_and]
   clear ha hx HS2
   go_enter Tryz.func45, Tryz.ntmps45
   go_wp2_with fail
   refine (HS1.out _ HQ.out).mono ?_
   rintro e w1 ⟨rfl, n, rfl⟩
   go_wp2
   go_ret
   exact ⟨rfl, HQ.out.drewN n⟩
  ·have d1 : ((t.xmax : Int) != 0) = true := by simp; omega
   rw [decide_eq_true (show t.xmax ≠ 0 from hx), Bool.true_and]
   by_cases h2 : s2 = 2
   ·have d2 : ((s2 : Int) == 2) = true := by simp; omega
    rw [decide_eq_true h2, Bool.true_and]
    clear ha hx h2
    by_cases hlt : t.xmax < hz
    ·rw [decide_eq_true hlt]
     go_enter Tryz.func45, Tryz.ntmps45
     go_wp2_with fail
     refine (HS1.out _ HQ.out).mono ?_
     rintro e w1 ⟨rfl, n, rfl⟩
     go_wp2_with fail
     refine (HS2.out _ (HQ.out.drewN n)).mono ?_
     rintro e w1 ⟨rfl, m, rfl⟩
     go_wp2
     go_ret
     exact ⟨rfl, HQ.out.drewN _⟩
    ·rw [decide_eq_false hlt]
     go_enter Tryz.func45, Tryz.ntmps45
     go_wp2_with fail
     refine (HS1.out _ HQ.out).mono ?_
     rintro e w1 ⟨rfl, n, rfl⟩
     go_wp2_with fail
     refine (HS2.out _ (HQ.out.drewN n)).mono ?_
     rintro e w1 ⟨rfl, m, rfl⟩
     go_wp2
     go_ret
     exact ⟨rfl, HQ.out.drewN _⟩
   ·have d2 : ((s2 : Int) == 2) = false := by simp; omega
    rw [decide_eq_false h2, Bool.false_and]
    clear ha hx h2
    go_enter Tryz.func45, Tryz.ntmps45
    go_wp2_with fail
    refine (HS1.out _ HQ.out).mono ?_
    rintro e w1 ⟨rfl, n, rfl⟩
    go_wp2_with fail
    refine (HS2.out _ (HQ.out.drewN n)).mono ?_
    rintro e w1 ⟨rfl, m, rfl⟩
    go_wp2
    go_ret
    exact ⟨rfl, HQ.out.drewN _⟩
end
end Go.Proofs.YthipgglplneijaaGreatDoor
namespace Go.Lap
def takeK (own n : Nat) (R : List Nat) (k : Nat) : Nat × List Nat := (leastR own n (R.take k), others own (R.take k))
theorem takeK_succ {own n k x : Nat} {R : List Nat} (h : R[k]? = some x) : takeK own n R (k + 1) = if x = own then takeK own n R k else (min (takeK own n R k).1 x, (takeK own n R k).2 ++ [x]) := by
 unfold takeK leastR others
 rw [List.take_add_one, h]
 by_cases e : x = own
 ·rw [if_pos e]; simp [e]
 ·rw [if_neg e]; simp [e]
theorem takeK_len (own n : Nat) (R : List Nat) (k : Nat) : (takeK own n R k).2.length <= k := by
 unfold takeK others
 exact Nat.le_trans (List.length_filter_le _ _) (List.length_take_le _ _)
theorem takeK_least (own n : Nat) (R : List Nat) (k : Nat) : (takeK own n R k).1 <= n := by
 unfold takeK leastR
 generalize R.take k = M
 show List.foldl _ n M <= n
 have key : ∀ (M : List Nat) (a : Nat), List.foldl (fun m x => if x = own then m else min m x) a M <= a := by
  intro M
  induction M with
  | nil => intro a; exact Nat.le_refl _
  | cons y M ih =>
   intro a
   rw [List.foldl_cons]
   refine Nat.le_trans (ih _) ?_
   split <;> omega
 exact key M n
theorem takeK_all (own n : Nat) (R : List Nat) : takeK own n R R.length = (leastR own n R, others own R) := by
 unfold takeK
 rw [List.take_length]
end Go.Lap
namespace Go.Proofs.YthipgglplneijaaGreatDoor
open Go.RowKit Go.Lap
structure TakeW (w wr : World) (B : Nat) (A : Option Addr) (R : List Nat) (v : Value) (own n : Nat) (r : Nat × List Nat) : Prop where
 quiet : Quiet w wr
 res : wr.heap[w.heap.size]? = some (.cells #[.int .u64 0, .int .u64 0, .int .u64 0, .slice none 0 0] 73 (0, 0))
 box : wr.heap[w.heap.size + 1]? = some (.cells #[.int .u64 (own : Int), .int .u64 (r.1 : Int), .int .u64 (n : Int), v] 73 (0, 0))
 row : wr.ownsRow 0 29 1 v r.2.length (u64sV r.2)
 new : ∀ k, v.ownBlock = some k -> B <= k
 src : Rd wr (fun k => w.heap.size + 1 < k /\ k < B) 1 A R.length (u64sV R)
 big : w.heap.size + 1 < B /\ B <= wr.heap.size
section
variable {w wr : World} {B own n : Nat} {A : Option Addr} {R : List Nat} {v : Value} {r : Nat × List Nat}
theorem TakeW.step {w4 : World} {v4 : Value} {x : Nat} (h : TakeW w wr B A R v own n r) (hg : Grew (wr.alloc (.cells #[.int .u64 (x : Int)] 29)) w4 29 1 v v4 (r.2.length + 1) (u64sV r.2 ++ u64sV [x])) (z : Int) (hz : z = ((min r.1 x : Nat) : Int)) :
  TakeW w ((w4.setCell ⟨w.heap.size + 1, 3, none⟩ v4).setCell ⟨w.heap.size + 1, 1, none⟩ (.int .u64 z)) B A R v4 own n (min r.1 x, r.2 ++ [x]) := by
 subst hz
 have hb := h.big
 have hnew : ∀ k, v4.ownBlock = some k -> B <= k := fun k e => by
  rcases hg.loc with y | y
  ·rw [y] at e; exact h.new k e
  ·rw [y] at e; injection e with e; simp only [World.size_alloc] at e; omega
 have hqa : Quiet wr (wr.alloc (.cells #[.int .u64 (x : Int)] 29)) := (Only.refl _ _).alloc _
 have ho : Only (· = w.heap.size + 1) w4 ((w4.setCell ⟨w.heap.size + 1, 3, none⟩ v4).setCell ⟨w.heap.size + 1, 1, none⟩ (.int .u64 ((min r.1 x : Nat) : Int))) := ((Only.refl (· = w.heap.size + 1) w4).setCell (p := ⟨w.heap.size + 1, 3, none⟩) (fun _ => rfl) _).setCell (p := ⟨w.heap.size + 1, 1, none⟩) (fun _ => rfl) _
 have hv : ∀ k, v.ownBlock = some k -> B <= k := h.new
 have b4 := hg.only.get (hqa.get h.box (fun x => x)) (fun e => by have := hv _ e; omega)
 have hs4 : w.heap.size + 1 < w4.heap.size := lt_of_get b4
 have hz4 := hg.only.size
 simp only [World.size_alloc] at hz4
 refine ⟨((h.quiet.trans hqa).trans' hg.only (fun k hk e => by have := hv k e; omega)).trans' ho (fun k hk e => by omega), ?_, ?_, ?_, hnew, ?_, ⟨hb.1, by have := ho.size; omega⟩⟩
 ·exact ho.get (hg.only.get (hqa.get h.res (fun x => x)) (fun e => by have := hv _ e; omega)) (by omega)
 ·rw [set_same (set_same b4 3 _) 1 _]
  rfl
 ·rw [List.length_append, show u64sV (r.2 ++ [x]) = u64sV r.2 ++ u64sV [x] by simp [u64sV]]
  exact owns_kept hg.own ho (fun k e y => by have := hnew k e; omega)
 ·exact (Rd.kept (T := fun k => v.ownBlock = some k) (h.src.kept hqa (fun _ _ x => x)) hg.only (fun k y e => by have := hv k e; omega)).kept ho (fun k y e => by omega)
theorem TakeW.cells (h : TakeW w wr B A R v own n r) : wr.cell? ⟨w.heap.size + 1, 0, none⟩ = some (.int .u64 (own : Int)) /\ wr.cell? ⟨w.heap.size + 1, 1, none⟩ = some (.int .u64 (r.1 : Int)) /\ wr.cell? ⟨w.heap.size + 1, 2, none⟩ = some (.int .u64 (n : Int)) /\ wr.cell? ⟨w.heap.size + 1, 3, none⟩ = some v /\ ∀ o, wr.frozen? ⟨w.heap.size + 1, o, none⟩ = false :=
 ⟨by rw [cell_of h.box]; rfl, by rw [cell_of h.box]; rfl, by rw [cell_of h.box]; rfl, by rw [cell_of h.box]; rfl, fun o => frozen_of h.box o⟩
theorem TakeW.zeros (h : TakeW w wr B A R v own n r) : wr.cell? ⟨w.heap.size, 0, none⟩ = some (.int .u64 0) /\ wr.cell? ⟨w.heap.size, 1, none⟩ = some (.int .u64 0) /\ wr.cell? ⟨w.heap.size, 2, none⟩ = some (.int .u64 0) /\ wr.cell? ⟨w.heap.size, 3, none⟩ = some (.slice none 0 0) /\ ∀ o, wr.frozen? ⟨w.heap.size, o, none⟩ = false :=
 ⟨by rw [cell_of h.res]; rfl, by rw [cell_of h.res]; rfl, by rw [cell_of h.res]; rfl, by rw [cell_of h.res]; rfl, fun o => frozen_of h.res o⟩
end
abbrev fourSet (w : World) (b : Nat) (v0 v1 v2 v3 : Value) : World := (((w.setCell ⟨b, 0, none⟩ v0).setCell ⟨b, 1, none⟩ v1).setCell ⟨b, 2, none⟩ v2).setCell ⟨b, 3, none⟩ v3
theorem fourSet_same {w : World} {b : Nat} {c0 c1 c2 c3 : Value} {t : TypeId} (h : w.heap[b]? = some (.cells #[c0, c1, c2, c3] t (0, 0))) (v0 v1 v2 v3 : Value) : (fourSet w b v0 v1 v2 v3).heap[b]? = some (.cells #[v0, v1, v2, v3] t (0, 0)) := by
 rw [set_same (set_same (set_same (set_same h _ _) _ _) _ _) _ _]
 rfl
theorem fourSet_only (w : World) (b : Nat) (v0 v1 v2 v3 : Value) : Only (· = b) w (fourSet w b v0 v1 v2 v3) :=
 ((((Only.refl (· = b) w).setCell (p := ⟨b, 0, none⟩) (fun _ => rfl) v0).setCell (p := ⟨b, 1, none⟩) (fun _ => rfl) v1).setCell (p := ⟨b, 2, none⟩) (fun _ => rfl) v2).setCell (p := ⟨b, 3, none⟩) (fun _ => rfl) v3
theorem info_snap : (Tryz.prog.info? 73).map (·.size) = some 4 := by kernel_rfl
theorem results_cellS {P : Program} {fn : Func} {p : Tmp} {ty : TypeId} (h : fn.results = #[.cell p ty]) (tmps : Array Value) (w : World) (g : Nat) (t : TypeId) (cs : Array Value) (fr : Nat × Nat) (d : TypeDesc)
  (hp : tmps.getD p undef = .pointer (some ⟨g, 0, none⟩)) (hg : w.heap[g]? = some (.cells cs t fr))
  (hu : P.underlying ty = some d) (hd : (match d with | .struct _ | .array _ _ => true | _ => false) = true) (hi : (P.info? ty).map (·.size) = some cs.size) :
  (results fn tmps).run P w = .ok (.agg cs) w := by
 have hp' : tmps[p]?.getD undef = .pointer (some ⟨g, 0, none⟩) := by simpa using hp
 simp [results, h, hp', asAddr, run_loadVar_row w g t ty cs fr d hg hu hd hi]
def SnapPost (w : World) (s : Snap) (e : Ending) (w' : World) : Prop := ∃ A c, e = .returned (snapV s A c) /\ Quiet w w' /\ SnapV w' (fun k => w.heap.size <= k /\ k < w'.heap.size) A c s
theorem TakeW.done {w wr : World} {B own n : Nat} {A A' : Option Addr} {c : Nat} {R : List Nat} {r : Nat × List Nat} (h : TakeW w wr B A R (.slice A' r.2.length c) own n r) (ho : U64 own) (hn : n <= 2000000) (hr : ∀ x ∈ r.2, U64 x) (h1 : r.1 <= n) (v0 v1 v2 v3 : Value) :
  Quiet w (fourSet wr w.heap.size v0 v1 v2 v3) /\ SnapV (fourSet wr w.heap.size v0 v1 v2 v3) (fun k => w.heap.size <= k /\ k < (fourSet wr w.heap.size v0 v1 v2 v3).heap.size) A' c ⟨own, r.1, n, r.2⟩ := by
 have hb := h.big
 obtain ⟨A5, c5, e5, hc, hcm, hrd⟩ := own_form h.row
 injection e5 with e5 _ e6
 subst e5 e6
 have hq := (fourSet_only wr w.heap.size v0 v1 v2 v3)
 refine ⟨h.quiet.trans' hq (fun k hk e => by omega), ⟨(hrd.kept hq (fun k e x => by have := h.new k e; omega)).mono (fun k e => ?_), ⟨hc, hcm⟩, ho, (show r.1 < 18446744073709551616 by omega), (show n < 18446744073709551616 by omega), hr⟩⟩
 have h2 := h.new k e
 have h3 := (h.row.lt k e).2
 have h4 := hq.size
 exact ⟨by omega, by omega⟩
set_option maxHeartbeats 1000000 in
theorem snap_take {w : World} {F : Nat -> Prop} {lb own : Nat} {L : List Nat} (h : LogAt w F lb L) (hl : L.length <= 1000000) (ho : U64 own) :
  Calls Tryz.prog 23 #[.pointer (some ⟨lb, 0, none⟩), .int .u64 (own : Int)] w (SnapPost w (takeS L own)) := by
 have HN : Hid (∀ W, Quiet w W -> Calls Tryz.prog 49 #[.pointer (some ⟨lb, 0, none⟩)] W fun e w' => e = .returned (.int .u64 ((L.length : Int) + 1)) /\ ∃ n, w' = W.drewN n) := fun W hq => log_next (h.kept hq (fun _ _ x => x))
 have HALL : Hid (∀ W, Quiet w W -> Calls Tryz.prog 51 #[.pointer (some ⟨lb, 0, none⟩)] W (NumsPost W (runsL L))) := fun W hq => log_all (h.kept hq (fun _ _ x => x)) hl
 unfold takeS
 have HRL : Hid (∀ x ∈ runsL L, U64 x) := fun x hx => by have := (runsL_le hx).2; unfold U64; omega
 have hr := runsK_length L L.length
 rw [runsK_all] at hr
 obtain ⟨n, hn⟩ : ∃ n, L.length + 1 = n := ⟨_, rfl⟩
 rw [show (L.length : Int) + 1 = (n : Int) by omega] at HN
 have hn2 : n <= 2000000 := by omega
 rw [hn]
 generalize runsL L = R at HALL hr HRL ⊢
 have hR : R.length <= 1000000 := by omega
 obtain ⟨sn, hsn⟩ : ∃ s : Snap, (⟨own, leastR own n R, n, others own R⟩ : Snap) = s := ⟨_, rfl⟩
 rw [hsn]
 have HSN := Lib.hid hsn
 clear h hn hl hr hsn
 go_enter Tryz.func23, Tryz.ntmps23
 go_wp2_with fail
 refine (HN.out _ ((Only.refl _ _).alloc _)).mono ?_
 rintro e w1 ⟨rfl, a, rfl⟩
 go_wp2_with fail
 refine (HN.out _ (((Only.refl _ _).alloc _).drewN _)).mono ?_
 rintro e w1 ⟨rfl, b, rfl⟩
 go_wp2_with fail
 have HQ0 : Hid (Quiet w (((w.alloc (.cells #[.int .u64 0, .int .u64 0, .int .u64 0, .slice none 0 0] 73)).drewN (a + b)).alloc (.cells #[.int .u64 (own : Int), .int .u64 (n : Int), .int .u64 (n : Int), .slice none 0 0] 73))) := (((Only.refl _ _).alloc _).drewN _).alloc _
 have HB1 := Lib.hid (two_new w (.cells #[.int .u64 0, .int .u64 0, .int .u64 0, .slice none 0 0] 73) (.cells #[.int .u64 (own : Int), .int .u64 (n : Int), .int .u64 (n : Int), .slice none 0 0] 73))
 have HB0 := Lib.hid (alloc_old (alloc_new w (.cells #[.int .u64 0, .int .u64 0, .int .u64 0, .slice none 0 0] 73)) (.cells #[.int .u64 (own : Int), .int .u64 (n : Int), .int .u64 (n : Int), .slice none 0 0] 73))
 refine (HALL.out _ HQ0.out).mono ?_
 rintro e w2 ⟨rv, rfl, hW⟩
 obtain ⟨A, c, rfl, hc, hcm, hrd⟩ := own_form hW.row
 have HT : Hid (TakeW w w2 w2.heap.size A R (.slice none 0 0) own n (takeK own n R 0)) := by
  have hz : w.heap.size + 1 < w2.heap.size := lt_of_get (hW.quiet.get (by exact HB1.out) (fun x => x))
  refine ⟨HQ0.out.trans hW.quiet, hW.quiet.get (by exact HB0.out) (fun x => x), hW.quiet.get (by exact HB1.out) (fun x => x), World.ownsRow_nil _ _ _ _, (fun k e => by cases e), hrd.mono (fun k e => ⟨?_, (hW.row.lt k e).2⟩), ⟨hz, Nat.le_refl _⟩⟩
  have := hW.own k e
  have hsd : ∀ (W : World) (n : Nat), (W.drewN n).heap.size = W.heap.size := fun _ _ => rfl
  simp only [World.size_alloc, hsd] at this
  omega
 unfold maxLen at hcm
 clear hW hrd HQ0 HB1 HB0 HN HALL
 generalize w2.heap.size = B at HT
 go_wp2
 go_loopw [17, 7] (fun i _ wr => ∃ (k : Nat) (v' : Value), k <= R.length /\ i = .int .i64 (k : Int) /\ TakeW w wr B A R v' own n (takeK own n R k)) (fun i _ _ => R.length - (intOf i).toNat)
 case atStart => exact ⟨0, _, Nat.zero_le _, rfl, HT.out⟩
 case round =>
  obtain ⟨k, v', hk, rfl, hW⟩ := hrel
  clear HT
  have hlen := takeK_len own n R k
  obtain ⟨q0, q1, q2, q3, qf⟩ := hW.cells
  obtain ⟨A', c', hv', hc', hcm', _⟩ := own_form hW.row
  subst hv'
  unfold maxLen at hcm'
  have HW := Lib.hid hW
  by_cases hlt : k < R.length
  ·obtain ⟨b, off, u, rfl, _, hu, hcell⟩ := hW.src.get hlt
   obtain ⟨x, hx, rfl⟩ : ∃ y, R[k]? = some y /\ u = .int .u64 (y : Int) := by
    unfold u64sV at hu
    rw [List.getElem?_map] at hu
    rcases h : R[k]? with _ | y
    ·rw [h] at hu; cases hu
    ·rw [h] at hu; injection hu with hu; exact ⟨y, rfl, hu.symm⟩
   have HS := Lib.hid (takeK_succ (own := own) (n := n) hx)
   clear hu hx hW
   by_cases hxo : x = own
   ·have d0 : ((x : Int) != own) = false := by simp; omega
    rw [if_pos hxo] at HS
    clear hxo
    go_wp2
    go_roundw
    case rel => exact ⟨k + 1, _, by omega, by go_num, by rw [HS.out]; exact HW.out⟩
    case measure => simp [intOf]; omega
   ·have d0 : ((x : Int) != own) = true := by simp; omega
    rw [if_neg hxo] at HS
    generalize takeK own n R k = r at HW HS hlen q1 hc' q3
    have hl2 : r.2.length <= 1000000 := by omega
    clear hxo
    have HROW := Lib.hid (owns_kept HW.out.row ((Only.refl (fun _ => False) wr).alloc (.cells #[.int .u64 (x : Int)] 29)) (fun _ _ x => x))
    go_wp2_with (at_builtin; refine app elem_u64 rfl (.tmp 25) (.tmp 27) rfl rfl HROW.out rfl (nums_rd _ x 29) (one_u64 [x]) (by unfold maxLen; omega) (by omega) ?_)
    intro v4 w4 hg4
    have HST := Lib.hid (HW.out.step hg4 _ rfl)
    have b4 := hg4.only.get (alloc_old HW.out.box _) (fun e => by have := HW.out.new _ e; have := HW.out.big; omega)
    obtain ⟨A4, c4, hv4, _, _, _⟩ := own_form hg4.own
    subst hv4
    have s1 := cell_of b4 1
    have s3 := cell_of b4 3
    have sf := fun o => frozen_of b4 o
    simp only [zGA, zGS, zGZ] at s1 s3
    have e1 : ((min r.1 x : Nat) : Int) = min (r.1 : Int) x := by omega
    rw [e1] at HST
    clear hg4 b4 q0 q1 q2 q3 qf HROW e1 hcell
    go_wp2
    go_roundw
    case rel => exact ⟨k + 1, _, by omega, by go_num, by rw [HS.out]; exact HST.out⟩
    case measure => simp [intOf]; omega
  ·obtain rfl : k = R.length := by omega
   have HK := Lib.hid (takeK_all own n R)
   have HL := Lib.hid (takeK_least own n R R.length)
   obtain ⟨z0, z1, z2, z3, zf⟩ := hW.zeros
   rw [HK.out] at HW HL q1 q3 hc'
   have hf : (others own R).length <= 1000000 := by unfold others; exact Nat.le_trans (List.length_filter_le _ _) hR
   clear hW hlen HK
   go_wp2_with fail
   have HD := Lib.hid (HW.out.done (r := (leastR own n R, others own R)) ho hn2 (fun x hx => HRL.out x (mem_others.1 hx).1) HL.out (.int .u64 (own : Int)) (.int .u64 (leastR own n R : Int)) (.int .u64 (n : Int)) (.slice A' (others own R).length c'))
   have HX := Lib.hid (fourSet_same HW.out.res (.int .u64 (own : Int)) (.int .u64 (leastR own n R : Int)) (.int .u64 (n : Int)) (.slice A' (others own R).length c'))
   unfold fourSet at HD HX
   generalize (((wr.setCell ⟨w.heap.size, 0, none⟩ (.int .u64 (own : Int))).setCell ⟨w.heap.size, 1, none⟩ (.int .u64 (leastR own n R : Int))).setCell ⟨w.heap.size, 2, none⟩ (.int .u64 (n : Int))).setCell ⟨w.heap.size, 3, none⟩ (.slice A' (others own R).length c') = W6 at HD HX ⊢
   refine bodyPost_ret (results_cellS Tryz.results23 _ _ w.heap.size _ _ (0, 0) _ (by rfl) HX.out Tryz.underlying73 rfl info_snap) (by rfl) ?_
   rw [<- HSN.out]
   exact ⟨A', c', rfl, HD.out⟩
end Go.Proofs.YthipgglplneijaaGreatDoor
namespace Go.Lap
structure TE where
 id : Nat
 name : ByteArray
 cols : List (ByteArray × Nat)
 xmin : Nat
 xmax : Nat
structure IE where
 id : Nat
 name : ByteArray
 table : Nat
 column : Nat
 xmin : Nat
 xmax : Nat
def colsV (l : List (ByteArray × Nat)) : List Value := l.flatMap (fun c => [.string c.1, .int .u8 (c.2 : Int)])
theorem colsV_len (l : List (ByteArray × Nat)) : (colsV l).length = l.length * 2 := by
 induction l with
 | nil => rfl
 | cons p l ih =>
  have : colsV (p :: l) = .string p.1 :: .int .u8 (p.2 : Int) :: colsV l := rfl
  rw [this, List.length_cons, List.length_cons, ih, List.length_cons]; omega
theorem colsV_get {l : List (ByteArray × Nat)} {j : Nat} {p : ByteArray × Nat} (h : l[j]? = some p) : (colsV l)[j * 2]? = some (.string p.1) /\ (colsV l)[j * 2 + 1]? = some (.int .u8 (p.2 : Int)) := by
 induction l generalizing j with
 | nil => simp at h
 | cons q l ih =>
  have e : colsV (q :: l) = .string q.1 :: .int .u8 (q.2 : Int) :: colsV l := rfl
  rcases j with _ | j
  ·simp at h
   subst h
   exact ⟨rfl, rfl⟩
  ·rw [List.getElem?_cons_succ] at h
   obtain ⟨h1, h2⟩ := ih h
   rw [e, show (j + 1) * 2 = j * 2 + 1 + 1 by omega]
   exact ⟨h1, h2⟩
theorem one_cols (l : List (ByteArray × Nat)) : ∀ u ∈ colsV l, u.oneCell' = true := by
 intro u hu
 unfold colsV at hu
 rw [List.mem_flatMap] at hu
 obtain ⟨p, _, hp⟩ := hu
 simp at hp
 rcases hp with rfl | rfl <;> rfl
def tupE (xmin xmax : Nat) : Tup := ⟨0, xmin, xmax, 0, 0, []⟩
end Go.Lap
namespace Go.Proofs.YthipgglplneijaaGreatDoor
open Go.RowKit Go.Lap
structure EntAt (w : World) (eb id : Nat) (name : ByteArray) (xmin xmax : Nat) : Prop where
 c0 : w.cell? ⟨eb, 0, none⟩ = some (.int .u64 (id : Int))
 c1 : w.cell? ⟨eb, 1, none⟩ = some (.string name)
 c2 : w.cell? ⟨eb, 2, none⟩ = some (.int .u64 (xmin : Int))
 c3 : w.cell? ⟨eb, 3, none⟩ = some (.int .u64 (xmax : Int))
theorem EntAt.kept {S : Nat -> Prop} {w w' : World} {eb id xmin xmax : Nat} {name : ByteArray} (h : EntAt w eb id name xmin xmax) (ho : Only S w w') (hn : ¬ S eb) : EntAt w' eb id name xmin xmax :=
 ⟨ho.cell h.c0 hn, ho.cell h.c1 hn, ho.cell h.c2 hn, ho.cell h.c3 hn⟩
theorem tupE_v (xmin xmax : Nat) : tupV (tupE xmin xmax) none 0 = .agg #[.int .u64 0, .int .u64 (xmin : Int), .int .u64 (xmax : Int), .int .i64 0, .int .i64 0, .slice none 0 0] := rfl
set_option maxHeartbeats 400000 in
theorem entry_tuple {w : World} {eb id xmin xmax : Nat} {name : ByteArray} (h : EntAt w eb id name xmin xmax) :
  Calls Tryz.prog 133 #[.pointer (some ⟨eb, 0, none⟩)] w fun e w' => e = .returned (tupV (tupE xmin xmax) none 0) /\ Quiet w w' := by
 obtain ⟨c0, c1, c2, c3⟩ := h
 have hl := cell_lt c0
 have hl2 : ¬ eb = w.heap.size := by have : eb < w.heap.size := hl; omega
 rw [tupE_v]
 go_enter Tryz.func133, Tryz.ntmps133
 go_wp2_with fail
 go_region
 all_goals
  go_wp2
  exact bodyPost_ret (v := .agg #[.int .u64 0, .int .u64 (xmin : Int), .int .u64 (xmax : Int), .int .i64 0, .int .i64 0, .slice none 0 0]) (by simp [results, Tryz.results133, go_sem]) rfl ⟨rfl, ((Only.refl _ _).alloc _).drew⟩
theorem snapBox_cells {w : World} {b : Nat} {s : Snap} {A : Option Addr} {c : Nat} (h : w.heap[b]? = some (.cells (snapCells s A c) 73 (0, 0))) :
  w.cell? ⟨b, 0, none⟩ = some (.int .u64 (s.own : Int)) /\ w.cell? ⟨b, 1, none⟩ = some (.int .u64 (s.xmin : Int)) /\ w.cell? ⟨b, 2, none⟩ = some (.int .u64 (s.xmax : Int)) /\ w.cell? ⟨b, 3, none⟩ = some (.slice A s.run.length c) :=
 ⟨by rw [cell_of h]; rfl, by rw [cell_of h]; rfl, by rw [cell_of h]; rfl, by rw [cell_of h]; rfl⟩
set_option maxHeartbeats 1000000 in
theorem entry_visible {w : World} {F S : Nat -> Prop} {lb eb id xmin xmax c : Nat} {name : ByteArray} {L : List Nat} {A : Option Addr} {s : Snap} (h : EntAt w eb id name xmin xmax) (hl : LogAt w F lb L) (hs : SnapV w S A c s) (h1 : U64 xmin) (h2 : U64 xmax) :
  Calls Tryz.prog 97 #[.pointer (some ⟨eb, 0, none⟩), .pointer (some ⟨lb, 0, none⟩), snapV s A c] w (BoolQ w (visS L s xmin xmax)) := by
 have HQ : Hid (Quiet w (w.alloc (.cells (snapCells s A c) 73))) := (Only.refl _ _).alloc _
 have HTU : Hid (∀ W, Quiet w W -> Calls Tryz.prog 133 #[.pointer (some ⟨eb, 0, none⟩)] W fun e w' => e = .returned (tupV (tupE xmin xmax) none 0) /\ Quiet W w') := fun W hq => entry_tuple (h.kept hq (fun x => x))
 have HV : Hid (∀ W, Quiet w W -> Calls Tryz.prog 63 #[.pointer (some ⟨lb, 0, none⟩), snapV s A c, tupV (tupE xmin xmax) none 0] W (BoolQ W (visS L s xmin xmax))) := fun W hq => snap_visible (tupE xmin xmax) none 0 (hl.kept hq (fun _ _ x => x)) (hs.kept hq (fun _ _ x => x)) h1 h2
 have HB := Lib.hid (alloc_new w (.cells (snapCells s A c) 73))
 generalize visS L s xmin xmax = r at HV ⊢
 rw [tupE_v] at HTU HV
 unfold snapV at *
 clear h hl hs h1 h2
 go_enter Tryz.func97, Tryz.ntmps97
 go_wp2_with fail
 go_region_held3 (fun w' => w'.cell? ⟨w.heap.size, 0, none⟩ = some (.int .u64 (s.own : Int)) /\ w'.cell? ⟨w.heap.size, 1, none⟩ = some (.int .u64 (s.xmin : Int)) /\ w'.cell? ⟨w.heap.size, 2, none⟩ = some (.int .u64 (s.xmax : Int)) /\ w'.cell? ⟨w.heap.size, 3, none⟩ = some (.slice A s.run.length c))
  (first | go_keep | exact snapBox_cells (hq3.get (hq2.get (by exact HB.out) (fun x => x)) (fun x => x)) | exact snapBox_cells (hq2.get (by exact HB.out) (fun x => x)) | fail)
  (first
    | (go_at_call 133; go_must (refine (HTU.out _ (HQ.out.drew)).mono ?_; rintro e w2 ⟨rfl, hq2⟩))
    | (go_at_call 63; go_must (refine (HV.out _ (HQ.out.drew.trans hq2)).mono ?_; rintro e w3 ⟨rfl, hq3⟩))
    | fail)
 have HQ3 := Lib.hid ((HQ.out.drew.trans hq2).trans hq3)
 clear hq2 hq3 HV HTU HB HQ
 go_wp2
 go_ret
 exact ⟨rfl, HQ3.out⟩
set_option maxHeartbeats 1000000 in
theorem entry_dead {w : World} {F : Nat -> Prop} {lb eb id xmin xmax hz : Nat} {name : ByteArray} {L : List Nat} (h : EntAt w eb id name xmin xmax) (hl : LogAt w F lb L) (h1 : U64 xmin) (h2 : U64 xmax) :
  Calls Tryz.prog 183 #[.pointer (some ⟨eb, 0, none⟩), .pointer (some ⟨lb, 0, none⟩), .int .u64 (hz : Int)] w (BoolQ w (deadS L xmin xmax hz)) := by
 have HTU := Lib.hid (entry_tuple h)
 have HV : Hid (∀ W, Quiet w W -> Calls Tryz.prog 45 #[.pointer (some ⟨lb, 0, none⟩), tupV (tupE xmin xmax) none 0, .int .u64 (hz : Int)] W (BoolQ W (deadS L xmin xmax hz))) := fun W hq => snap_dead (tupE xmin xmax) none 0 hz (hl.kept hq (fun _ _ x => x)) h1 h2
 generalize deadS L xmin xmax hz = r at HV ⊢
 rw [tupE_v] at HTU HV
 clear h hl h1 h2
 go_enter Tryz.func183, Tryz.ntmps183
 go_wp2_with fail
 refine HTU.out.mono ?_
 rintro e w2 ⟨rfl, hq2⟩
 have HQ2 := Lib.hid hq2
 clear hq2
 go_wp2_with fail
 refine (HV.out _ HQ2.out).mono ?_
 rintro e w3 ⟨rfl, hq3⟩
 have HQ3 := Lib.hid (HQ2.out.trans hq3)
 clear hq3
 go_wp2
 go_ret
 exact ⟨rfl, HQ3.out⟩
theorem elem_col : Elem Tryz.prog 33 81 2 24 := Elem.mk' (.agg #[.string ⟨#[]⟩, .int .u8 0]) Tryz.underlying33 (by kernel_rfl) rfl (by decide)
structure FreshC (w w' : World) (v : Value) (l : List (ByteArray × Nat)) : Prop where
 quiet : Quiet w w'
 new : ∀ k, v.ownBlock = some k -> w.heap.size <= k
 own : w'.ownsRow 0 81 2 v l.length (colsV l)
def FreshCPost (w : World) (l : List (ByteArray × Nat)) (e : Ending) (w' : World) : Prop := ∃ v, e = .returned v /\ FreshC w w' v l
set_option maxHeartbeats 400000 in
theorem clone_cols (A : Option Addr) (cap : Nat) (l : List (ByteArray × Nat)) (S : Nat -> Prop) (w : World) (hr : Rd w S 2 A l.length (colsV l)) (hl : l.length <= 1000) (h0 : 0 < l.length) :
  Calls Tryz.prog 56 #[.slice A l.length cap] w (FreshCPost w l) := by
 have heq := fun (w : World) (a : Option Addr) (n c : Nat) => Lib.run_eql_slice_nil (P := Tryz.prog) w 33 _ a n c 0 0 Tryz.underlying33
 obtain ⟨b, off, rfl, _⟩ := hr.cells (by rw [colsV_len]; omega)
 have HR := Lib.hid hr
 clear hr
 go_enter Tryz.func56, Tryz.ntmps56
 go_wp2_with (at_builtin; refine app elem_col rfl (.tmp 5) (.tmp 6) rfl rfl (owns_empty w _ _) rfl (HR.out.kept ((Only.refl (fun _ => False) w).alloc _) (fun _ _ x => x)) (one_cols l) (by unfold maxLen; omega) (by omega) ?_)
 intro v w1 hg
 have HF : Hid (FreshC w w1 v l) := by
  refine ⟨((Only.refl _ _).alloc _).trans' hg.only (fun k hk e => by simp [Value.ownBlock] at e; omega), fun k e => ?_, hg.own⟩
  rcases hg.loc with x | x <;> rw [x] at e
  ·simp [Value.ownBlock] at e; omega
  ·injection e with e; simp at e; omega
 clear hg
 go_wp2
 go_ret
 exact ⟨v, rfl, HF.out⟩
structure TblAt (w : World) (F : Nat -> Prop) (tb : Nat) (e : TE) : Prop where
 ex : ∃ A c, w.heap[tb]? = some (.cells #[.int .u64 (e.id : Int), .string e.name, .int .u64 (e.xmin : Int), .int .u64 (e.xmax : Int), .slice A e.cols.length c] 144 (0, 0)) /\ Rd w F 2 A e.cols.length (colsV e.cols) /\ e.cols.length <= c /\ c <= maxLen
 own : F tb
 pos : 0 < e.cols.length /\ e.cols.length <= 8
 num : U64 e.id /\ U64 e.xmin /\ U64 e.xmax
 typ : ∃ A c, w.heap[tb]? = some (.cells #[.int .u64 (e.id : Int), .string e.name, .int .u64 (e.xmin : Int), .int .u64 (e.xmax : Int), .slice A e.cols.length c] 144 (0, 0)) /\ ∀ g, (Value.slice A e.cols.length c).ownBlock = some g -> F g /\ ∃ cur, w.heap[g]? = some (.cells cur 81 (0, 0))
theorem TblAt.kept {S F : Nat -> Prop} {w w' : World} {tb : Nat} {e : TE} (h : TblAt w F tb e) (ho : Only S w w') (hn : ∀ k, F k -> ¬ S k) : TblAt w' F tb e := by
 obtain ⟨A, c, h1, h2, h3⟩ := h.ex
 obtain ⟨A', c', t1, t2⟩ := h.typ
 exact ⟨⟨A, c, ho.get h1 (hn _ h.own), h2.kept ho hn, h3⟩, h.own, h.pos, h.num, A', c', ho.get t1 (hn _ h.own), fun g e => ⟨(t2 g e).1, by obtain ⟨cur, hh⟩ := (t2 g e).2; exact ⟨cur, ho.get hh (hn g (t2 g e).1)⟩⟩⟩
theorem TblAt.mono {F G : Nat -> Prop} {w : World} {tb : Nat} {e : TE} (h : TblAt w F tb e) (hg : ∀ k, F k -> G k) : TblAt w G tb e := by
 obtain ⟨A, c, h1, h2, h3⟩ := h.ex
 obtain ⟨A', c', t1, t2⟩ := h.typ
 exact ⟨⟨A, c, h1, h2.mono hg, h3⟩, hg _ h.own, h.pos, h.num, A', c', t1, fun g e => ⟨hg g (t2 g e).1, (t2 g e).2⟩⟩
theorem TblAt.ent {F : Nat -> Prop} {w : World} {tb : Nat} {e : TE} (h : TblAt w F tb e) : EntAt w tb e.id e.name e.xmin e.xmax := by
 obtain ⟨A, c, h1, _⟩ := h.ex
 exact ⟨by rw [cell_of h1]; rfl, by rw [cell_of h1]; rfl, by rw [cell_of h1]; rfl, by rw [cell_of h1]; rfl⟩
def tabV (e : TE) (A : Option Addr) (c : Nat) : Value := .agg #[.int .u64 (e.id : Int), .string e.name, .slice A e.cols.length c, .int .u64 (e.xmin : Int), .int .u64 (e.xmax : Int)]
def ToldPost (w : World) (t : TE) (e : Ending) (w' : World) : Prop := ∃ A c, e = .returned (tabV t A c) /\ FreshC w w' (.slice A t.cols.length c) t.cols
theorem info_tab : (Tryz.prog.info? 83).map (·.size) = some 5 := by kernel_rfl
abbrev fiveSet (w : World) (b : Nat) (v0 v1 v2 v3 v4 : Value) : World := ((((w.setCell ⟨b, 0, none⟩ v0).setCell ⟨b, 1, none⟩ v1).setCell ⟨b, 2, none⟩ v2).setCell ⟨b, 3, none⟩ v3).setCell ⟨b, 4, none⟩ v4
theorem fiveSet_same {w : World} {b : Nat} {c0 c1 c2 c3 c4 : Value} {t : TypeId} (h : w.heap[b]? = some (.cells #[c0, c1, c2, c3, c4] t (0, 0))) (v0 v1 v2 v3 v4 : Value) : (fiveSet w b v0 v1 v2 v3 v4).heap[b]? = some (.cells #[v0, v1, v2, v3, v4] t (0, 0)) := by
 rw [set_same (set_same (set_same (set_same (set_same h _ _) _ _) _ _) _ _) _ _]
 rfl
theorem fiveSet_only (w : World) (b : Nat) (v0 v1 v2 v3 v4 : Value) : Only (· = b) w (fiveSet w b v0 v1 v2 v3 v4) :=
 (((((Only.refl (· = b) w).setCell (p := ⟨b, 0, none⟩) (fun _ => rfl) v0).setCell (p := ⟨b, 1, none⟩) (fun _ => rfl) v1).setCell (p := ⟨b, 2, none⟩) (fun _ => rfl) v2).setCell (p := ⟨b, 3, none⟩) (fun _ => rfl) v3).setCell (p := ⟨b, 4, none⟩) (fun _ => rfl) v4
theorem five_kept {S : Nat -> Prop} {w w' : World} {b : Nat} {v0 v1 v2 v3 v4 : Value} (h0 : w.cell? ⟨b, 0, none⟩ = some v0) (h1 : w.cell? ⟨b, 1, none⟩ = some v1) (h2 : w.cell? ⟨b, 2, none⟩ = some v2) (h3 : w.cell? ⟨b, 3, none⟩ = some v3) (h4 : w.cell? ⟨b, 4, none⟩ = some v4) (ho : Only S w w') (hn : ¬ S b) :
  w'.cell? ⟨b, 0, none⟩ = some v0 /\ w'.cell? ⟨b, 1, none⟩ = some v1 /\ w'.cell? ⟨b, 2, none⟩ = some v2 /\ w'.cell? ⟨b, 3, none⟩ = some v3 /\ w'.cell? ⟨b, 4, none⟩ = some v4 :=
 ⟨ho.cell h0 hn, ho.cell h1 hn, ho.cell h2 hn, ho.cell h3 hn, ho.cell h4 hn⟩
set_option maxHeartbeats 1000000 in
theorem table_told {w : World} {F : Nat -> Prop} {tb : Nat} {t : TE} (h : TblAt w F tb t) :
  Calls Tryz.prog 99 #[.pointer (some ⟨tb, 0, none⟩)] w (ToldPost w t) := by
 obtain ⟨c0, c1, c2, c3⟩ := h.ent
 obtain ⟨A, c, hb, hr, hc, hcm⟩ := h.ex
 have c4 : w.cell? ⟨tb, 4, none⟩ = some (.slice A t.cols.length c) := by rw [cell_of hb]; rfl
 have hl := lt_of_get hb
 have hl2 : ¬ tb = w.heap.size := by omega
 have HCL : Hid (∀ W, Quiet w W -> Calls Tryz.prog 56 #[.slice A t.cols.length c] W (FreshCPost W t.cols)) := fun W hq => clone_cols A c t.cols F W (hr.kept hq (fun _ _ x => x)) (by have := h.pos; omega) h.pos.1
 clear h hb hr hc hcm
 go_enter Tryz.func99, Tryz.ntmps99
 go_wp2_with fail
 refine wp_region_held_drew (S := fun w' => w'.cell? ⟨tb, 0, none⟩ = some (.int .u64 (t.id : Int)) /\ w'.cell? ⟨tb, 1, none⟩ = some (.string t.name) /\ w'.cell? ⟨tb, 2, none⟩ = some (.int .u64 (t.xmin : Int)) /\ w'.cell? ⟨tb, 3, none⟩ = some (.int .u64 (t.xmax : Int)) /\ w'.cell? ⟨tb, 4, none⟩ = some (.slice A t.cols.length c)) (by kernel_rfl) (five_kept c0 c1 c2 c3 c4 (((Only.refl (fun _ => False) w).alloc _).drew) (fun x => x)) (fun hHeld => ?_)
 simp only [List.size_toArray, List.length_cons, List.length_nil, Nat.reduceAdd]
 refine zT 0 ?_
 refine zT 1 ?_
 refine zT 2 ?_
 refine zT 3 ?_
 refine zT 4 ?_
 refine zT 5 ?_
 refine zT 6 ?_
 refine zT 7 ?_
 refine zT 8 ?_
 refine zT 9 ?_
 refine zT 10 ?_
 refine zT 11 ?_
 refine zT 12 ?_
 refine zT 13 ?_
 refine zT 15 ?_
 refine zT 16 ?_
 refine zT 17 ?_
 refine zT 18 ?_
 refine zT 19 ?_
 refine zT 20 ?_
 refine zT 21 ?_
 refine zT 22 ?_
 refine zT 23 ?_
 refine zT 24 ?_
 refine zR 14 ?_
 intro K hK
 go_simp
 go_at_call 56
 refine (HCL.out _ (((Only.refl (fun _ => False) w).alloc _).drew)).mono ?_
 rintro e w2 ⟨v2, rfl, hf2⟩
 obtain ⟨A2, k2, hv2, hc2, hcm2, _⟩ := own_form hf2.own
 subst hv2
 have hb2 := hf2.quiet.get (by exact alloc_new w (.cells #[.int .u64 0, .string ⟨#[]⟩, .slice none 0 0, .int .u64 0, .int .u64 0] 83)) (fun x => x)
 have HK : Hid (FreshC w w2 (.slice A2 t.cols.length k2) t.cols) := ⟨(((Only.refl (fun _ => False) w).alloc _).drew).trans hf2.quiet, (fun k e => by have := hf2.new k e; simp only [World.size_drew, World.size_alloc] at this; omega), hf2.own⟩
 have HB2 := Lib.hid hb2
 have z0 := cell_of hb2 0
 have z1 := cell_of hb2 1
 have z2 := cell_of hb2 2
 have z3 := cell_of hb2 3
 have z4 := cell_of hb2 4
 have zf := fun o => frozen_of hb2 o
 simp only [zGA, zGS, zGZ] at z0 z1 z2 z3 z4
 have HN2 : Hid (∀ k, (Value.slice A2 t.cols.length k2).ownBlock = some k -> w.heap.size < k) := fun k e => by have := hf2.new k e; simp only [World.size_drew, World.size_alloc] at this; omega
 clear hf2 hb2
 dsimp only
 refine hK.out _ _ ?_ (fun hHeld => ?_)
 ·exact five_kept c0 c1 c2 c3 c4 HK.out.quiet (fun x => x)
 clear hK K
 (try simp only [Act.put, zPA, zPZ, zPS])
 refine zT 25 ?_
 refine zR 26 ?_
 intro K hK
 go_simp
 refine hK.out _ _ ?_ (fun hHeld => ?_)
 ·exact five_kept hHeld.1 hHeld.2.1 hHeld.2.2.1 hHeld.2.2.2.1 hHeld.2.2.2.2 (fiveSet_only w2 w.heap.size (.int .u64 (t.id : Int)) (.string t.name) (.slice A2 t.cols.length k2) (.int .u64 (t.xmin : Int)) (.int .u64 (t.xmax : Int))) hl2
 clear hK K
 (try simp only [Act.put, zPA, zPZ, zPS])
 refine wpAnyH_done (by kernel_rfl) ?_ _
 clear hHeld z0 z1 z2 z3 z4 zf
 have HX := Lib.hid (fiveSet_same HB2.out (.int .u64 (t.id : Int)) (.string t.name) (.slice A2 t.cols.length k2) (.int .u64 (t.xmin : Int)) (.int .u64 (t.xmax : Int)))
 have HO := fiveSet_only w2 w.heap.size (.int .u64 (t.id : Int)) (.string t.name) (.slice A2 t.cols.length k2) (.int .u64 (t.xmin : Int)) (.int .u64 (t.xmax : Int))
 have HF : Hid (FreshC w (fiveSet w2 w.heap.size (.int .u64 (t.id : Int)) (.string t.name) (.slice A2 t.cols.length k2) (.int .u64 (t.xmin : Int)) (.int .u64 (t.xmax : Int))) (.slice A2 t.cols.length k2) t.cols) :=
  ⟨HK.out.quiet.trans' HO (fun k hk e => by omega), fun k e => by have := HN2.out k e; omega, owns_kept HK.out.own HO (fun k e x => by have := HN2.out k e; omega)⟩
 clear HO HK HB2 HN2
 unfold fiveSet at HX HF
 go_wp2
 generalize ((((w2.setCell ⟨w.heap.size, 0, none⟩ (.int .u64 (t.id : Int))).setCell ⟨w.heap.size, 1, none⟩ (.string t.name)).setCell ⟨w.heap.size, 2, none⟩ (.slice A2 t.cols.length k2)).setCell ⟨w.heap.size, 3, none⟩ (.int .u64 (t.xmin : Int))).setCell ⟨w.heap.size, 4, none⟩ (.int .u64 (t.xmax : Int)) = W6 at HX HF ⊢
 exact bodyPost_ret (results_cellS Tryz.results99 _ _ w.heap.size _ _ (0, 0) _ (by rfl) HX.out Tryz.underlying83 rfl info_tab) (by rfl) ⟨A2, k2, rfl, HF.out⟩
structure BookRow (w : World) (F : Nat -> Prop) (bb : Nat) (T : List TE) (vT : Value) (tps : List Nat) (vI : Value) (ips : List Nat) (last : Nat) : Prop where
 box : w.heap[bb]? = some (.cells #[vT, vI, .int .u64 (last : Int)] 132 (0, 0))
 rowT : w.ownsRow 0 138 1 vT T.length (tps.map ptrV)
 rowI : w.ownsRow 0 179 1 vI ips.length (ips.map ptrV)
 tbl : ∀ (i : Nat) e, T[i]? = some e -> ∃ p, tps[i]? = some p /\ TblAt w F p e
 foot : F bb /\ (∀ k, vT.ownBlock = some k -> F k) /\ (∀ k, vI.ownBlock = some k -> F k)
 num : U64 last
section
variable {w w' : World} {F : Nat -> Prop} {bb last : Nat} {T : List TE} {vT vI : Value} {tps ips : List Nat}
theorem BookRow.kept {S : Nat -> Prop} (h : BookRow w F bb T vT tps vI ips last) (ho : Only S w w') (hn : ∀ k, F k -> ¬ S k) : BookRow w' F bb T vT tps vI ips last :=
 ⟨ho.get h.box (hn _ h.foot.1), owns_kept h.rowT ho (fun k e => hn k (h.foot.2.1 k e)), owns_kept h.rowI ho (fun k e => hn k (h.foot.2.2 k e)), fun i e hi => by obtain ⟨p, h1, h2⟩ := h.tbl i e hi; exact ⟨p, h1, h2.kept ho hn⟩, h.foot, h.num⟩
theorem BookRow.cells (h : BookRow w F bb T vT tps vI ips last) : w.cell? ⟨bb, 0, none⟩ = some vT /\ w.cell? ⟨bb, 1, none⟩ = some vI /\ w.cell? ⟨bb, 2, none⟩ = some (.int .u64 (last : Int)) :=
 ⟨by rw [cell_of h.box]; rfl, by rw [cell_of h.box]; rfl, by rw [cell_of h.box]; rfl⟩
theorem BookRow.tlen (h : BookRow w F bb T vT tps vI ips last) : tps.length = T.length := by
 have := h.rowT.1
 simpa using this
end
theorem ptr_form {w : World} {e : TypeId} {v : Value} {n : Nat} {ps : List Nat} (h : w.ownsRow 0 e 1 v n (ps.map ptrV)) : ∃ A c, v = .slice A n c /\ n <= c /\ c <= maxLen /\ ∀ (i p : Nat), ps[i]? = some p -> ∃ g, A = some ⟨g, 0, none⟩ /\ w.cell? ⟨g, i, none⟩ = some (ptrV p) := by
 have hl : ps.length = n := by have := h.1; simpa using this
 rcases h.2 with ⟨e1, e2⟩ | ⟨g, cap, cur, e1, _, hh, r1, r2, _⟩
 ·refine ⟨none, 0, by rw [e2]; exact e1, by omega, Nat.zero_le _, fun i p hi => ?_⟩
  have := (List.getElem?_eq_some_iff.1 hi).1
  omega
 ·refine ⟨_, cap, e1, r1, r2, fun i p hi => ⟨g, rfl, ?_⟩⟩
  have := h.cells (by rw [e1]; rfl) i (ptrV p) (by rw [List.getElem?_map, hi]; rfl)
  rw [add_none, Nat.zero_add] at this
  exact this
def isTE (L : List Nat) (s : Snap) (name : ByteArray) (e : TE) : Bool := (e.name.toList == name.toList) && visS L s e.xmin e.xmax
def findT (L : List Nat) (s : Snap) (name : ByteArray) (T : List TE) : Option Nat := T.findIdx? (isTE L s name)
def TabPost (w : World) (tps : List Nat) (o : Option Nat) (e : Ending) (w' : World) : Prop :=
 (match o with | none => e = .returned (.pointer none) | some i => ∃ p, tps[i]? = some p /\ e = .returned (ptrV p)) /\ Quiet w w'
theorem findT_some {L : List Nat} {s : Snap} {name : ByteArray} {T : List TE} {k : Nat} {e : TE} (hk : T[k]? = some e) (he : isTE L s name e = true) (hno : ∀ j x, j < k -> T[j]? = some x -> isTE L s name x = false) : findT L s name T = some k := by
 unfold findT
 rw [List.findIdx?_eq_some_iff_getElem]
 obtain ⟨h1, h2⟩ := List.getElem?_eq_some_iff.1 hk
 refine ⟨h1, by rw [h2]; exact he, fun j hj => ?_⟩
 have := hno j T[j] hj (List.getElem?_eq_getElem (by omega))
 simp [this]
theorem findT_none {L : List Nat} {s : Snap} {name : ByteArray} {T : List TE} (hno : ∀ (j : Nat) x, T[j]? = some x -> isTE L s name x = false) : findT L s name T = none := by
 unfold findT
 rw [List.findIdx?_eq_none_iff]
 intro x hx
 obtain ⟨j, hj⟩ := List.mem_iff_getElem?.1 hx
 rw [hno j x hj]
set_option maxHeartbeats 2000000 in
theorem book_table {w : World} {F Fl S : Nat -> Prop} {bb lb last c : Nat} {T : List TE} {vT vI : Value} {tps ips : List Nat} {L : List Nat} {A : Option Addr} {s : Snap} (name : ByteArray) (h : BookRow w F bb T vT tps vI ips last) (hl : LogAt w Fl lb L) (hs : SnapV w S A c s) :
  Calls Tryz.prog 82 #[.pointer (some ⟨bb, 0, none⟩), .pointer (some ⟨lb, 0, none⟩), snapV s A c, .string name] w (TabPost w tps (findT L s name T)) := by
 have HQ0 : Hid (Quiet w (w.alloc (.cells (snapCells s A c) 73))) := (Only.refl _ _).alloc _
 have HB0 := Lib.hid (alloc_new w (.cells (snapCells s A c) 73))
 have HH := Lib.hid h
 have HVIS : Hid (∀ (W : World) (p : Nat) (e : TE) (i : Nat), Quiet w W -> T[i]? = some e -> tps[i]? = some p -> Calls Tryz.prog 97 #[.pointer (some ⟨p, 0, none⟩), .pointer (some ⟨lb, 0, none⟩), snapV s A c] W (BoolQ W (visS L s e.xmin e.xmax))) := fun W p e i hq he hp => by
  obtain ⟨p', h1, h2⟩ := h.tbl i e he
  rw [hp] at h1
  injection h1 with h1
  subst h1
  exact entry_visible (h2.kept hq (fun _ _ x => x)).ent (hl.kept hq (fun _ _ x => x)) (hs.kept hq (fun _ _ x => x)) h2.num.2.1 h2.num.2.2
 obtain ⟨c0, _, _⟩ := h.cells
 obtain ⟨AT, cT, hvT, hcT, hmT, hfT⟩ := ptr_form h.rowT
 subst hvT
 have HFT := Lib.hid hfT
 have htl := h.tlen
 obtain ⟨n, hn⟩ : ∃ n, T.length = n := ⟨_, rfl⟩
 rw [hn] at c0 hcT
 have HN := Lib.hid hn
 have HTL : Hid (tps.length = n) := by rw [htl]; exact hn
 unfold maxLen at hmT
 have hbl := lt_of_get h.box
 obtain ⟨POST, hPOST⟩ : ∃ POST, TabPost w tps (findT L s name T) = POST := ⟨_, rfl⟩
 rw [hPOST]
 have HPOST := Lib.hid hPOST
 unfold snapV at *
 clear h hl hs hfT hn htl hPOST
 go_enter Tryz.func82, Tryz.ntmps82
 go_wp2
 go_loopw [16, 10, 20, 21, 22, 23, 24, 25, 26, 27, 28, 29, 30, 31, 32, 33, 34] (fun i _ _ _ _ _ _ _ _ _ _ _ _ _ _ _ _ wr => ∃ k : Nat, k <= n /\ i = .int .i64 (k : Int) /\ Quiet w wr /\ wr.heap[w.heap.size]? = some (.cells (snapCells s A c) 73 (0, 0)) /\ (∀ (j : Nat) x, j < k -> T[j]? = some x -> isTE L s name x = false)) (fun i _ _ _ _ _ _ _ _ _ _ _ _ _ _ _ _ _ => n - (intOf i).toNat)
 case atStart => exact ⟨0, Nat.zero_le _, rfl, HQ0.out, HB0.out, fun j x hj => absurd hj (by omega)⟩
 case round =>
  obtain ⟨k, hk, rfl, hq, hb, hno⟩ := hrel
  have HQ := Lib.hid hq
  have HB := Lib.hid hb
  have HNO := Lib.hid hno
  clear hno HB0 HQ0
  by_cases hlt : k < n
  ·obtain ⟨e, he⟩ : ∃ e, T[k]? = some e := ⟨_, List.getElem?_eq_getElem (by have := HN.out; omega)⟩
   obtain ⟨p, hp, htb⟩ := HH.out.tbl k e he
   obtain ⟨g, rfl, hg⟩ := HFT.out k p hp
   have hg2 := hq.cell hg (fun x => x)
   have c1 := (htb.kept hq (fun _ _ x => x)).ent.c1
   obtain ⟨b0, b1, b2, b3⟩ := snapBox_cells hb
   have HE := Lib.hid he
   have HP := Lib.hid hp
   clear he hp hg htb hq hb
   by_cases hnm : (e.name.toList == name.toList) = true
   ·have HV := Lib.hid (HVIS.out · p e k · HE.out HP.out)
    have HIS : Hid (isTE L s name e = visS L s e.xmin e.xmax) := by
     have : isTE L s name e = ((e.name.toList == name.toList) && visS L s e.xmin e.xmax) := rfl
     rw [hnm, Bool.true_and] at this
     exact this
    generalize visS L s e.xmin e.xmax = r at HV HIS
    go_wp2_with fail
    refine wp_region_held_drew (S := fun w' => w'.cell? ⟨p, 1, none⟩ = some (.string e.name) /\ w'.cell? ⟨w.heap.size, 0, none⟩ = some (.int .u64 (s.own : Int)) /\ w'.cell? ⟨w.heap.size, 1, none⟩ = some (.int .u64 (s.xmin : Int)) /\ w'.cell? ⟨w.heap.size, 2, none⟩ = some (.int .u64 (s.xmax : Int)) /\ w'.cell? ⟨w.heap.size, 3, none⟩ = some (.slice A s.run.length c)) (by kernel_rfl) (⟨c1, b0, b1, b2, b3⟩) (fun hHeld => ?_)
    simp only [List.size_toArray, List.length_cons, List.length_nil, Nat.reduceAdd]
    refine zT 0 ?_
    refine zT 1 ?_
    refine zT 2 ?_
    refine zT 3 ?_
    refine zT 4 ?_
    refine zT 5 ?_
    refine zT 6 ?_
    refine zT 7 ?_
    refine zT 8 ?_
    refine zT 9 ?_
    refine zT 10 ?_
    refine zT 11 ?_
    refine zT 12 ?_
    refine zR 13 ?_
    intro K hK
    go_simp
    go_at_call 97
    refine (HV.out _ HQ.out.drew).mono ?_
    rintro e' w3 ⟨rfl, hq3⟩
    have HQ3 := Lib.hid (HQ.out.drew.trans hq3)
    have HB3 := Lib.hid (hq3.get (by exact HB.out) (fun x => x))
    have hs3 := snapBox_cells HB3.out
    have hn3 := hq3.cell (by exact c1) (fun x => x)
    clear hq3
    dsimp only
    refine hK.out _ _ ?_ (fun hHeld => ?_)
    ·exact ⟨hn3, hs3⟩
    clear hK K
    (try simp only [Act.put, zPA, zPZ, zPS])
    refine zT 14 ?_
    refine wpAnyH_done (by kernel_rfl) ?_ _
    rcases r with _ | _
    ·have HK : Hid (∀ (j : Nat) x, j < k + 1 -> T[j]? = some x -> isTE L s name x = false) := fun j x hj hx => by
      rcases Nat.lt_or_ge j k with a | a
      ·exact HNO.out j x a hx
      ·obtain rfl : j = k := by omega
       rw [HE.out] at hx
       injection hx with hx
       rw [<- hx]
       exact HIS.out
     clear hHeld c1 b0 b1 b2 b3 hg2
     go_wp2
     go_roundw
     case rel => exact ⟨k + 1, by omega, by go_num, HQ3.out, HB3.out, HK.out⟩
     case measure => simp [intOf]; omega
    ·have HEND : Hid (POST (.returned (ptrV p)) w3) := by
      rw [<- HPOST.out, findT_some HE.out HIS.out HNO.out]
      exact ⟨⟨p, HP.out, rfl⟩, HQ3.out⟩
     clear hHeld c1 b0 b1 b2 b3 hg2
     go_wp2
     exact HEND.out
   ·have hnm2 : (e.name.toList == name.toList) = false := by simpa using hnm
    have HK : Hid (∀ (j : Nat) x, j < k + 1 -> T[j]? = some x -> isTE L s name x = false) := fun j x hj hx => by
     rcases Nat.lt_or_ge j k with a | a
     ·exact HNO.out j x a hx
     ·obtain rfl : j = k := by omega
      rw [HE.out] at hx
      injection hx with hx
      rw [<- hx]
      unfold isTE
      rw [hnm2]; rfl
    clear hnm
    go_wp2_with fail
    refine wp_region_held_drew (S := fun w' => w'.cell? ⟨p, 1, none⟩ = some (.string e.name) /\ w'.cell? ⟨w.heap.size, 0, none⟩ = some (.int .u64 (s.own : Int)) /\ w'.cell? ⟨w.heap.size, 1, none⟩ = some (.int .u64 (s.xmin : Int)) /\ w'.cell? ⟨w.heap.size, 2, none⟩ = some (.int .u64 (s.xmax : Int)) /\ w'.cell? ⟨w.heap.size, 3, none⟩ = some (.slice A s.run.length c)) (by kernel_rfl) (⟨c1, b0, b1, b2, b3⟩) (fun hHeld => ?_)
    simp only [List.size_toArray, List.length_cons, List.length_nil, Nat.reduceAdd]
    refine zT 0 ?_
    refine zT 1 ?_
    refine zT 2 ?_
    refine zT 3 ?_
    refine zT 4 ?_
    refine zT 5 ?_
    refine zT 6 ?_
    refine zT 7 ?_
    refine zO 8 ?_
    refine zO 9 ?_
    refine zO 10 ?_
    refine zO 11 ?_
    refine zO 12 ?_
    refine zO 13 ?_
    refine zT 14 ?_
    refine wpAnyH_done (by kernel_rfl) ?_ _
    clear hHeld c1 b0 b1 b2 b3 hg2 hnm2
    go_wp2
    go_roundw
    case rel => exact ⟨k + 1, by omega, by go_num, HQ.out.drew, HB.out, HK.out⟩
    case measure => simp [intOf]; omega
  ·have HEND : Hid (POST (.returned (.pointer none)) wr) := by
    rw [<- HPOST.out, findT_none (fun j x hx => HNO.out j x (by have := HN.out; have := (List.getElem?_eq_some_iff.1 hx).1; omega) hx)]
    exact ⟨rfl, HQ.out⟩
   obtain rfl : k = n := by omega
   clear hq hb
   go_wp2
   exact HEND.out
def TablePost (w : World) (t : TE) (e : Ending) (w' : World) : Prop := ∃ A c, e = .returned (.tuple #[tabV t A c, .bool true]) /\ FreshC w w' (.slice A t.cols.length c) t.cols /\ t.cols.length <= c /\ c <= maxLen
set_option maxHeartbeats 1000000 in
theorem book_Table {w : World} {F Fl S : Nat -> Prop} {bb lb last c i : Nat} {T : List TE} {vT vI : Value} {tps ips : List Nat} {L : List Nat} {A : Option Addr} {s : Snap} {t : TE} (name : ByteArray) (h : BookRow w F bb T vT tps vI ips last) (hl : LogAt w Fl lb L) (hs : SnapV w S A c s) (hf : findT L s name T = some i) (ht : T[i]? = some t) :
  Calls Tryz.prog 58 #[.pointer (some ⟨bb, 0, none⟩), .pointer (some ⟨lb, 0, none⟩), snapV s A c, .string name] w (TablePost w t) := by
 have HQ0 : Hid (Quiet w ((w.alloc (.cells (snapCells s A c) 73)).alloc (.cells #[.int .u64 0, .string ⟨#[]⟩, .slice none 0 0, .int .u64 0, .int .u64 0] 83))) := ((Only.refl _ _).alloc _).alloc _
 have HR := Lib.hid (two_new w (.cells (snapCells s A c) 73) (.cells #[.int .u64 0, .string ⟨#[]⟩, .slice none 0 0, .int .u64 0, .int .u64 0] 83))
 have HT : Hid (∀ W, Quiet w W -> Calls Tryz.prog 82 #[.pointer (some ⟨bb, 0, none⟩), .pointer (some ⟨lb, 0, none⟩), snapV s A c, .string name] W (TabPost W tps (some i))) := fun W hq => by
  have := book_table name (h.kept hq (fun _ _ x => x)) (hl.kept hq (fun _ _ x => x)) (hs.kept hq (fun _ _ x => x))
  rw [hf] at this
  exact this
 have HTO : Hid (∀ W p, Quiet w W -> tps[i]? = some p -> Calls Tryz.prog 99 #[.pointer (some ⟨p, 0, none⟩)] W (ToldPost W t)) := fun W p hq hp => by
  obtain ⟨p', h1, h2⟩ := h.tbl i t ht
  rw [hp] at h1
  injection h1 with h1
  subst h1
  exact table_told (h2.kept hq (fun _ _ x => x))
 unfold snapV at *
 clear h hl hs hf ht
 go_enter Tryz.func58, Tryz.ntmps58
 go_wp2_with fail
 refine (HT.out _ HQ0.out).mono ?_
 rintro e w1 ⟨⟨p, hp, rfl⟩, hq1⟩
 have HQ1 := Lib.hid (HQ0.out.trans hq1)
 have HR1 := Lib.hid (hq1.get (by exact HR.out) (fun x => x))
 have HP := Lib.hid hp
 clear hq1 hp HT HQ0 HR
 go_wp2_with fail
 refine (HTO.out _ p HQ1.out HP.out).mono ?_
 rintro e w2 ⟨A2, c2, rfl, hf2⟩
 obtain ⟨A5, c5, e5, hc5, hm5, _⟩ := own_form hf2.own
 injection e5 with e5 _ e6
 subst e5 e6
 have hb2 := hf2.quiet.get (by exact HR1.out) (fun x => x)
 have z0 := cell_of hb2 0
 have z1 := cell_of hb2 1
 have z2 := cell_of hb2 2
 have z3 := cell_of hb2 3
 have z4 := cell_of hb2 4
 have zf := fun o => frozen_of hb2 o
 simp only [zGA, zGS, zGZ] at z0 z1 z2 z3 z4
 have HX := Lib.hid (fiveSet_same hb2 (.int .u64 (t.id : Int)) (.string t.name) (.slice A2 t.cols.length c2) (.int .u64 (t.xmin : Int)) (.int .u64 (t.xmax : Int)))
 have HO := fiveSet_only w2 (w.heap.size + 1) (.int .u64 (t.id : Int)) (.string t.name) (.slice A2 t.cols.length c2) (.int .u64 (t.xmin : Int)) (.int .u64 (t.xmax : Int))
 have hz1 : w.heap.size + 1 < w1.heap.size := lt_of_get HR1.out
 have HF : Hid (FreshC w (fiveSet w2 (w.heap.size + 1) (.int .u64 (t.id : Int)) (.string t.name) (.slice A2 t.cols.length c2) (.int .u64 (t.xmin : Int)) (.int .u64 (t.xmax : Int))) (.slice A2 t.cols.length c2) t.cols) :=
  ⟨(HQ1.out.trans hf2.quiet).trans' HO (fun k hk e => by omega), fun k e => by have := hf2.new k e; omega, owns_kept hf2.own HO (fun k e x => by have := hf2.new k e; omega)⟩
 have HC := Lib.hid hc5
 have HM := Lib.hid hm5
 clear HO hf2 hb2 HTO HR1 HQ1 hc5 hm5
 unfold fiveSet at HX HF
 unfold tabV
 go_wp2
 generalize ((((w2.setCell ⟨w.heap.size + 1, 0, none⟩ (.int .u64 (t.id : Int))).setCell ⟨w.heap.size + 1, 1, none⟩ (.string t.name)).setCell ⟨w.heap.size + 1, 2, none⟩ (.slice A2 t.cols.length c2)).setCell ⟨w.heap.size + 1, 3, none⟩ (.int .u64 (t.xmin : Int))).setCell ⟨w.heap.size + 1, 4, none⟩ (.int .u64 (t.xmax : Int)) = W6 at HX HF ⊢
 exact bodyPost_ret (results_cell_tmp Tryz.results58 _ _ (w.heap.size + 1) _ _ (0, 0) _ (by rfl) HX.out Tryz.underlying83 rfl info_tab) (by rfl) ⟨A2, c2, rfl, HF.out, HC.out, HM.out⟩
structure Small (s : ByteArray) : Prop where
 pos : 0 < s.size
 most : s.size <= 20
 low : ∀ (i : Nat) (h : i < s.size), 97 <= (s[i]'h).toNat /\ (s[i]'h).toNat <= 122
set_option maxHeartbeats 1000000 in
theorem book_name (s : ByteArray) (hs : Small s) (w : World) :
  Calls Tryz.prog 52 #[.string s] w (BoolQ w true) := by
 obtain ⟨h0, h20, hl⟩ := hs
 have HL := Lib.hid hl
 have he : s.toList.isEmpty = false := by
  have : s.toList.length = s.size := by rw [Lib.toList_data]; simp
  rcases h : s.toList with _ | _
  ·rw [h] at this; simp at this; omega
  ·rfl
 clear hl
 go_enter Tryz.func52, Tryz.ntmps52
 go_wp2
 go_loopw [8, 9, 10, 11, 3, 4, 5, 12, 13, 14, 15, 16, 17, 18, 19, 20, 21, 22, 23, 24, 25, 26, 27, 28, 29, 30, 31, 32, 33, 34, 35] (fun _ _ _ _ _ _ _ _ _ _ _ _ _ _ _ _ _ _ _ _ _ _ _ _ _ _ _ _ _ _ _ wr => ∃ k : Nat, k <= s.size /\ wr = w.iter s k) (fun _ _ _ _ _ _ _ _ _ _ _ _ _ _ _ _ _ _ _ _ _ _ _ _ _ _ _ _ _ _ _ wr => s.size - wr.iterPos w.heap.size)
 case atStart => exact ⟨0, Nat.zero_le _, rfl⟩
 case round =>
  obtain ⟨k, hk, rfl⟩ := hrel
  by_cases hlt : k < s.size
  ·obtain ⟨x, hx⟩ : ∃ x, (s[k]'hlt).toNat = x := ⟨_, rfl⟩
   have hb := HL.out k hlt
   have hn := fun ty => run_next_ascii (P := Tryz.prog) w s k ty hlt (by omega)
   rw [hx] at hn hb
   have d0 : (97 : Int) <= x := by omega
   have d1 : (x : Int) <= 122 := by omega
   clear hx
   go_wp2
   go_roundw
   case rel => exact ⟨k + 1, by omega, rfl⟩
   case measure => simp; omega
  ·obtain rfl : k = s.size := by omega
   have hn := fun ty => run_next_end (P := Tryz.prog) w s s.size ty (by omega)
   have d2 : decide ((s.size : Int) <= 20) = true := decide_eq_true (by omega)
   go_wp2
   go_ret
   exact ⟨rfl, (Only.refl _ _).alloc _⟩
theorem ownsS_kept {w w' : World} {S : Nat -> Prop} {P : Program} {k : TypeId} {R : Value -> Option (DataW Unit × List MemPlace)} {b n : Nat} {D : DataW Unit} (h : w.ownsMap P k R b n D) (ho : Only S w w') (hn : ¬ S b) : w'.ownsMap P k R b n D := by
 obtain ⟨es, clock, h1, r⟩ := h
 exact ⟨es, clock, ho.get h1 hn, r⟩
theorem seenS_look {w : World} {b : Nat} (h : w.ownsMap Tryz.prog 9 (plainElem (H := Unit) Tryz.prog 4) b 0 (.map [])) (s : ByteArray) (hs : s.size <= 20) :
  (Instr.lookup 203 (.map (some b)) (.string s) false).run Tryz.prog w = .ok (.bool false) w := by
 obtain ⟨v, ps, hrun, hv⟩ := h.lookup (Maps.string_keyed Tryz.underlying9) Tryz.underlying203 (zero_boolS w) (plainElem_bool Tryz.underlying4 false) (Go.WideMaps.keyOf_string_mk Tryz.underlying9 (s := s) (by unfold maxLen; omega))
 obtain ⟨a, rfl, hz⟩ := plainElem_bool_inv Tryz.underlying4 hv
 injection hz with hz _
 injection hz with hz
 injection hz with hz
 rw [hrun, <- hz]
set_option maxHeartbeats 1000000 in
theorem right_one {w : World} {S : Nat -> Prop} {A : Option Addr} {c kd : Nat} {nm : ByteArray} (hr : Rd w S 2 A 1 (colsV [(nm, kd)])) (hnm : Small nm) (hk : 1 <= kd /\ kd <= 3) (hc : 1 <= c) (hm : c <= maxLen) :
  Calls Tryz.prog 53 #[.slice A 1 c] w (BoolQ w true) := by
 have hmm := @run_makeMap Tryz.prog
 obtain ⟨b, off, rfl, _, hcs⟩ := hr.at_ (k := 0) (by omega) (by omega)
 obtain ⟨u0, h0, c0⟩ := hcs 0 (by omega)
 obtain ⟨u1, h1, c1⟩ := hcs 1 (by omega)
 obtain rfl : Value.string nm = u0 := Option.some.inj h0
 obtain rfl : Value.int .u8 (kd : Int) = u1 := Option.some.inj h1
 simp only [Nat.zero_mul, Nat.add_zero, Nat.zero_add] at c0 c1
 have HNM : Hid (∀ W, Calls Tryz.prog 52 #[.string nm] W (BoolQ W true)) := fun W => book_name nm hnm W
 have HO : Hid (World.ownsMap (w.alloc (.map #[] 0)) Tryz.prog 9 (plainElem (H := Unit) Tryz.prog 4) w.heap.size 0 (.map [])) := World.ownsMap_made _ _ _ _
 have HSZ := Lib.hid hnm.most
 have hb := cell_lt c0
 unfold maxLen at hm
 clear hr hcs h0 h1 hnm
 go_enter Tryz.func53, Tryz.ntmps53
 go_wp2
 go_loopw [9, 5, 10, 11, 12, 13, 14, 15, 16, 17, 18, 19, 20, 21, 22, 23, 24, 25, 26, 27, 28, 29, 30, 31, 32, 33, 34, 35] (fun i _ _ _ _ _ _ _ _ _ _ _ _ _ _ _ _ _ _ _ _ _ _ _ _ _ _ _ wr => ∃ k : Nat, k <= 1 /\ i = .int .i64 (k : Int) /\ Quiet w wr /\ (k = 0 -> wr = w.alloc (.map #[] 0))) (fun i _ _ _ _ _ _ _ _ _ _ _ _ _ _ _ _ _ _ _ _ _ _ _ _ _ _ _ _ => 1 - (intOf i).toNat)
 case atStart => exact ⟨0, Nat.zero_le _, rfl, (Only.refl _ _).alloc _, fun _ => rfl⟩
 case round =>
  obtain ⟨k, hk1, rfl, hq, hw⟩ := hrel
  rcases k with _ | k
  ·obtain rfl := hw rfl
   have HQ := Lib.hid hq
   clear hw hq hk1
   have HB : Hid (((w.alloc (.map #[] 0)).alloc (.cells #[.string nm, .int .u8 (kd : Int)] 81)).heap[w.heap.size + 1]? = some (.cells #[.string nm, .int .u8 (kd : Int)] 81 (0, 0))) := two_new w _ _
   go_wp2_with fail
   refine (HNM.out _).mono ?_
   rintro e w2 ⟨rfl, hq2⟩
   have HO2 := Lib.hid (ownsS_kept HO.out (((Only.refl (fun _ => False) _).alloc (.cells #[.string nm, .int .u8 (kd : Int)] 81)).trans hq2) (fun x => x))
   have hb2 := hq2.get (by exact HB.out) (fun x => x)
   have z0 := cell_of hb2 0
   have z1 := cell_of hb2 1
   simp only [zGA, zGS, zGZ] at z0 z1
   have hlk := seenS_look HO2.out nm HSZ.out
   obtain ⟨w3, hup, _, hgr⟩ := HO2.out.update (Maps.string_keyed Tryz.underlying9) Tryz.underlying203 (by unfold maxLen; omega) (Go.WideMaps.keyOf_string_mk Tryz.underlying9 (s := nm) (by have := HSZ.out; unfold maxLen; omega)) (plainElem_bool Tryz.underlying4 true)
   have HQ3 : Hid (Quiet w w3) := ((HQ.out.alloc _).trans hq2).trans' ((Only.refl (· = w.heap.size) w2).byMap hgr (fun _ => rfl)) (fun k hk e => by omega)
   have d0 : ((kd : Int) == 0) = false := by simp; omega
   have d1 : decide (3 < (kd : Int)) = false := decide_eq_false (by omega)
   clear hq2 hb2 hgr HO2 HB HQ HO
   go_wp2
   go_roundw
   case rel => exact ⟨1, by omega, by go_num, HQ3.out, fun x => by cases x⟩
   case measure => simp [intOf]
  ·obtain rfl : k = 0 := by omega
   have HQ := Lib.hid hq
   clear hw hq
   go_wp2
   go_ret
   exact ⟨rfl, HQ.out⟩
structure IdxAt (w : World) (F : Nat -> Prop) (xb : Nat) (e : IE) : Prop where
 box : w.heap[xb]? = some (.cells #[.int .u64 (e.id : Int), .string e.name, .int .u64 (e.xmin : Int), .int .u64 (e.xmax : Int), .int .u64 (e.table : Int), .int .i64 (e.column : Int)] 181 (0, 0))
 own : F xb
 num : U64 e.id /\ U64 e.xmin /\ U64 e.xmax /\ U64 e.table /\ e.column < 8
theorem IdxAt.kept {S F : Nat -> Prop} {w w' : World} {xb : Nat} {e : IE} (h : IdxAt w F xb e) (ho : Only S w w') (hn : ∀ k, F k -> ¬ S k) : IdxAt w' F xb e := ⟨ho.get h.box (hn _ h.own), h.own, h.num⟩
theorem IdxAt.mono {F G : Nat -> Prop} {w : World} {xb : Nat} {e : IE} (h : IdxAt w F xb e) (hg : ∀ k, F k -> G k) : IdxAt w G xb e := ⟨h.box, hg _ h.own, h.num⟩
def BookIs (w : World) (F : Nat -> Prop) (bb : Nat) (T : List TE) (I : List IE) (last : Nat) : Prop :=
 ∃ vT tps vI ips, BookRow w F bb T vT tps vI ips last /\ ips.length = I.length /\ ∀ (i : Nat) e, I[i]? = some e -> ∃ p, ips[i]? = some p /\ IdxAt w F p e
section
variable {w w' : World} {F G : Nat -> Prop} {bb last : Nat} {T : List TE} {I : List IE}
theorem BookIs.kept {S : Nat -> Prop} (h : BookIs w F bb T I last) (ho : Only S w w') (hn : ∀ k, F k -> ¬ S k) : BookIs w' F bb T I last := by
 obtain ⟨vT, tps, vI, ips, h1, h2, h3⟩ := h
 exact ⟨vT, tps, vI, ips, h1.kept ho hn, h2, fun i e hi => by obtain ⟨p, a, b⟩ := h3 i e hi; exact ⟨p, a, b.kept ho hn⟩⟩
theorem BookIs.mono (h : BookIs w F bb T I last) (hg : ∀ k, F k -> G k) : BookIs w G bb T I last := by
 obtain ⟨vT, tps, vI, ips, h1, h2, h3⟩ := h
 exact ⟨vT, tps, vI, ips, ⟨h1.box, h1.rowT, h1.rowI, fun i e hi => by obtain ⟨p, a, b⟩ := h1.tbl i e hi; exact ⟨p, a, b.mono hg⟩, ⟨hg _ h1.foot.1, fun k e => hg _ (h1.foot.2.1 k e), fun k e => hg _ (h1.foot.2.2 k e)⟩, h1.num⟩, h2, fun i e hi => by obtain ⟨p, a, b⟩ := h3 i e hi; exact ⟨p, a, b.mono hg⟩⟩
theorem BookIs.lt (h : BookIs w F bb T I last) : F bb /\ bb < w.heap.size := by
 obtain ⟨vT, tps, vI, ips, h1, h2, h3⟩ := h
 exact ⟨h1.foot.1, lt_of_get h1.box⟩
end
set_option maxHeartbeats 400000 in
theorem book_new (w : World) :
  Calls Tryz.prog 21 #[] w fun e w' => e = .returned (.pointer (some ⟨w.heap.size, 0, none⟩)) /\ Quiet w w' /\ BookIs w' (fun k => w.heap.size <= k) w.heap.size [] [] 0 := by
 go_enter Tryz.func21, Tryz.ntmps21
 go_wp2
 go_ret
 exact ⟨rfl, (Only.refl _ _).alloc _, .slice none 0 0, [], .slice none 0 0, [], ⟨alloc_new _ _, World.ownsRow_nil _ _ _ _, World.ownsRow_nil _ _ _ _, fun i e hi => by simp at hi, ⟨Nat.le_refl _, (fun k e => by cases e), (fun k e => by cases e)⟩, by unfold U64; omega⟩, rfl, fun i e hi => by simp at hi⟩
def NilPost (w : World) (e : Ending) (w' : World) : Prop := e = .returned (.slice none 0 0) /\ w = w'
set_option maxHeartbeats 400000 in
theorem keep_none {w : World} {F : Nat -> Prop} {bb lb last id : Nat} {T : List TE} (h : BookIs w F bb T [] last) :
  Calls Tryz.prog 61 #[.pointer (some ⟨bb, 0, none⟩), .pointer (some ⟨lb, 0, none⟩), .int .u64 (id : Int)] w (NilPost w) := by
 obtain ⟨vT, tps, vI, ips, h, h2, h3⟩ := h
 have hi0 : ips = [] := List.eq_nil_of_length_eq_zero h2
 subst hi0
 obtain ⟨_, c1, _⟩ := h.cells
 obtain ⟨A, c, hv, hc, hm, _⟩ := ptr_form h.rowI
 subst hv
 rw [List.length_nil] at c1
 clear h h2 h3 hc
 unfold maxLen at hm
 go_enter Tryz.func61, Tryz.ntmps61
 go_wp2
 go_loop [17, 7] (fun i o => i = .int .i64 0 /\ o = .slice none 0 0) (fun _ _ => 0)
 case atStart => exact ⟨rfl, rfl⟩
 case round =>
  obtain ⟨rfl, rfl⟩ := hrel
  go_wp2
  go_ret
  exact ⟨rfl, rfl⟩
set_option maxHeartbeats 400000 in
theorem entries_none {w : World} {F : Nat -> Prop} {bb last : Nat} (h : BookIs w F bb [] [] last) :
  Calls Tryz.prog 96 #[.pointer (some ⟨bb, 0, none⟩)] w (NilPost w) := by
 obtain ⟨vT, tps, vI, ips, h, h2, h3⟩ := h
 have hi0 : ips = [] := List.eq_nil_of_length_eq_zero h2
 subst hi0
 obtain ⟨c0, c1, _⟩ := h.cells
 obtain ⟨A, c, hv, hc, hm, _⟩ := ptr_form h.rowI
 obtain ⟨A', c', hv', hc', hm', _⟩ := ptr_form h.rowT
 subst hv hv'
 rw [List.length_nil] at c0 c1
 clear h h2 h3 hc hc'
 unfold maxLen at hm hm'
 go_enter Tryz.func96, Tryz.ntmps96
 go_wp2
 go_loop [13, 3] (fun i o => i = .int .i64 0 /\ o = .slice none 0 0) (fun _ _ => 0)
 case atStart => exact ⟨rfl, rfl⟩
 case round =>
  obtain ⟨rfl, rfl⟩ := hrel
  go_wp2
  go_loop [29, 3] (fun i o => i = .int .i64 0 /\ o = .slice none 0 0) (fun _ _ => 0)
  case atStart => exact ⟨rfl, rfl⟩
  case round =>
   obtain ⟨rfl, rfl⟩ := hrel
   go_wp2
   go_ret
   exact ⟨rfl, rfl⟩
set_option maxHeartbeats 1000000 in
theorem taken_none {w : World} {F : Nat -> Prop} {bb lb last c : Nat} {A : Option Addr} {s : Snap} {name : ByteArray} (h : BookIs w F bb [] [] last) :
  Calls Tryz.prog 54 #[.pointer (some ⟨bb, 0, none⟩), .pointer (some ⟨lb, 0, none⟩), snapV s A c, .string name] w fun e w' => e = .returned (.int .i64 0) /\ Quiet w w' := by
 have HQ0 : Hid (Quiet w (w.alloc (.cells (snapCells s A c) 73))) := (Only.refl _ _).alloc _
 have HE := Lib.hid (entries_none (h.kept HQ0.out (fun _ _ x => x)))
 unfold snapV
 clear h
 go_enter Tryz.func54, Tryz.ntmps54
 go_wp2_with fail
 refine HE.out.mono ?_
 rintro e w1 ⟨rfl, rfl⟩
 go_wp2
 go_loop [15, 9] (fun i o => i = .int .i64 0 /\ o = .int .i64 0) (fun _ _ => 0)
 case atStart => exact ⟨rfl, rfl⟩
 case round =>
  obtain ⟨rfl, rfl⟩ := hrel
  go_wp2
  go_ret
  exact ⟨rfl, HQ0.out⟩
theorem BookRow.count {w : World} {F : Nat -> Prop} {bb last : Nat} {T : List TE} {vT vI : Value} {tps ips : List Nat} (h : BookRow w F bb T vT tps vI ips last) (hl : last < 1000000) (z : Int) (hz : z = (last : Int) + 1) :
  BookRow (w.setCell ⟨bb, 2, none⟩ (.int .u64 z)) F bb T vT tps vI ips (last + 1) /\ Only (· = bb) w (w.setCell ⟨bb, 2, none⟩ (.int .u64 z)) := by
 subst hz
 have ho : Only (· = bb) w (w.setCell ⟨bb, 2, none⟩ (.int .u64 ((last : Int) + 1))) := (Only.refl (· = bb) w).setCell (p := ⟨bb, 2, none⟩) (fun _ => rfl) _
 have ht : ∀ k, vT.ownBlock = some k -> k ≠ bb := fun k e => by
  obtain ⟨c, hh⟩ := own_blk h.rowT e
  exact (ne_type h.box hh (by decide)).symm
 have hi : ∀ k, vI.ownBlock = some k -> k ≠ bb := fun k e => by
  obtain ⟨c, hh⟩ := own_blk h.rowI e
  exact (ne_type h.box hh (by decide)).symm
 refine ⟨⟨?_, owns_kept h.rowT ho (fun k e x => ht k e x), owns_kept h.rowI ho (fun k e x => hi k e x), fun i e hie => ?_, h.foot, by unfold U64; omega⟩, ho⟩
 ·rw [set_same h.box]; rfl
 ·obtain ⟨p, h1, h2⟩ := h.tbl i e hie
  obtain ⟨A, c, hb, hr, hc⟩ := h2.ex
  obtain ⟨A', c', t1, t2⟩ := h2.typ
  refine ⟨p, h1, ⟨A, c, ho.get hb (ne_type hb h.box (by decide)), ?_, hc⟩, h2.own, h2.pos, h2.num, A', c', ho.get t1 (ne_type t1 h.box (by decide)), fun g e => ⟨(t2 g e).1, by obtain ⟨cur, hh⟩ := (t2 g e).2; exact ⟨cur, ho.get hh (ne_type hh h.box (by decide))⟩⟩⟩
  refine ⟨hr.len, fun hn => ?_⟩
  obtain ⟨b, off, e1, hb1, hcell⟩ := hr.cells hn
  refine ⟨b, off, e1, hb1, fun j u hu => ho.cell (hcell j u hu) (fun x => ?_)⟩
  have x' : b = bb := x
  subst x'
  have hlen : 0 < (colsV e.cols).length := hn
  have h0 := hcell 0 (colsV e.cols)[0] (List.getElem?_eq_getElem hlen)
  obtain ⟨q, hq⟩ : ∃ q, e.cols[0]? = some q := ⟨_, List.getElem?_eq_getElem h2.pos.1⟩
  have hv := (colsV_get hq).1
  rw [Nat.zero_mul, List.getElem?_eq_getElem hlen] at hv
  injection hv with hv
  rw [hv, cell_of h.box] at h0
  rcases hoff : off + 0 with _ | _ | _ | n
  ·rw [hoff] at h0
   simp at h0
   rcases owns_cases h.rowT with ⟨e1, _⟩ | ⟨g, cap, e1, _⟩ <;> rw [e1] at h0 <;> cases h0
  ·rw [hoff] at h0
   simp at h0
   rcases owns_cases h.rowI with ⟨e1, _⟩ | ⟨g, cap, e1, _⟩ <;> rw [e1] at h0 <;> cases h0
  ·rw [hoff] at h0
   simp at h0
  ·rw [hoff] at h0
   simp at h0
def FreshEPost (w : World) (F : Nat -> Prop) (bb : Nat) (T : List TE) (vT : Value) (tps : List Nat) (vI : Value) (ips : List Nat) (last own : Nat) (name : ByteArray) (e : Ending) (w' : World) : Prop :=
 e = .returned (.agg #[.int .u64 ((last : Int) + 1), .string name, .int .u64 (own : Int), .int .u64 0]) /\ Only (· = bb) w w' /\ BookRow w' F bb T vT tps vI ips (last + 1)
set_option maxHeartbeats 1000000 in
theorem book_fresh {w : World} {F : Nat -> Prop} {bb last c : Nat} {T : List TE} {vT vI : Value} {tps ips : List Nat} {A : Option Addr} {s : Snap} {name : ByteArray} (h : BookRow w F bb T vT tps vI ips last) (hl : last < 1000000) :
  Calls Tryz.prog 55 #[.pointer (some ⟨bb, 0, none⟩), snapV s A c, .string name] w (FreshEPost w F bb T vT tps vI ips last s.own name) := by
 obtain ⟨_, _, c2⟩ := h.cells
 have hf : ∀ o, w.frozen? ⟨bb, o, none⟩ = false := fun o => frozen_of h.box o
 have hbl := lt_of_get h.box
 have e1 : IntKind.u64.wrap ((last : Int) + 1) = (last : Int) + 1 := by rw [IntKind.wrap_u64]; omega
 have hb1 : ¬ bb = w.heap.size := by omega
 have hb2 : ¬ bb = w.heap.size + 1 := by omega
 have HC := Lib.hid (h.count hl _ rfl)
 unfold snapV
 clear h
 go_enter Tryz.func55, Tryz.ntmps55
 go_wp2_with fail
 go_region
 all_goals
  go_wp2
  have HQ : Quiet (w.setCell ⟨bb, 2, none⟩ (.int .u64 ((last : Int) + 1))) ((((w.setCell ⟨bb, 2, none⟩ (.int .u64 ((last : Int) + 1))).alloc (.cells (snapCells s A c) 73)).alloc (.cells #[.int .u64 ((last : Int) + 1), .string name, .int .u64 (s.own : Int), .int .u64 0] 140)).drew) := (((Only.refl _ _).alloc _).alloc _).drew
  exact bodyPost_ret (v := .agg #[.int .u64 ((last : Int) + 1), .string name, .int .u64 (s.own : Int), .int .u64 0]) (by simp [results, Tryz.results55, go_sem]) rfl
   ⟨rfl, HC.out.2.trans' HQ (fun _ _ x => x.elim), HC.out.1.kept HQ (fun _ _ x => x)⟩
theorem BookRow.first {w4 w5 w7 : World} {F : Nat -> Prop} {bb last : Nat} {vT vI v7 : Value} {t : TE} {A5 : Option Addr} {c5 : Nat} (h : BookRow w4 F bb [] vT [] vI [] last) (hf5 : FreshC w4 w5 (.slice A5 t.cols.length c5) t.cols) (hc5 : t.cols.length <= c5 /\ c5 <= maxLen)
  (hp : 0 < t.cols.length /\ t.cols.length <= 8) (hn : U64 t.id /\ U64 t.xmin /\ U64 t.xmax)
  (hg : Grew ((w5.alloc (.cells #[.int .u64 (t.id : Int), .string t.name, .int .u64 (t.xmin : Int), .int .u64 (t.xmax : Int), .slice A5 t.cols.length c5] 144)).alloc (.cells #[ptrV w5.heap.size] 138)) w7 138 1 vT v7 1 [ptrV w5.heap.size]) :
  BookIs (w7.setCell ⟨bb, 0, none⟩ v7) (fun k => F k ∨ w4.heap.size <= k) bb [t] [] last /\ Only F w4 (w7.setCell ⟨bb, 0, none⟩ v7) /\ (w7.setCell ⟨bb, 0, none⟩ v7).cell? ⟨w5.heap.size, 0, none⟩ = some (.int .u64 (t.id : Int)) := by
 have hvt : ∀ k, vT.ownBlock = some k -> F k /\ k < w4.heap.size /\ k ≠ bb := fun k e => by
  obtain ⟨c, hh⟩ := own_blk h.rowT e
  exact ⟨h.foot.2.1 k e, lt_of_get hh, (ne_type h.box hh (by decide)).symm⟩
 have hvi : ∀ k, vI.ownBlock = some k -> k < w4.heap.size /\ k ≠ bb /\ vT.ownBlock ≠ some k := fun k e => by
  obtain ⟨c, hh⟩ := own_blk h.rowI e
  refine ⟨lt_of_get hh, (ne_type h.box hh (by decide)).symm, fun x => ?_⟩
  obtain ⟨c', hh'⟩ := own_blk h.rowT x
  exact absurd rfl (ne_type hh hh' (by decide))
 have hl := lt_of_get h.box
 have hz5 := hf5.quiet.size
 have hq2 : Quiet w5 ((w5.alloc (.cells #[.int .u64 (t.id : Int), .string t.name, .int .u64 (t.xmin : Int), .int .u64 (t.xmax : Int), .slice A5 t.cols.length c5] 144)).alloc (.cells #[ptrV w5.heap.size] 138)) := ((Only.refl _ _).alloc _).alloc _
 have hq := hf5.quiet.trans hq2
 have b4 := hg.only.get (hq.get h.box (fun x => x)) (fun e => (hvt bb e).2.2 rfl)
 have ht7 := hg.only.get (alloc_old (alloc_new w5 (.cells #[.int .u64 (t.id : Int), .string t.name, .int .u64 (t.xmin : Int), .int .u64 (t.xmax : Int), .slice A5 t.cols.length c5] 144)) (.cells #[ptrV w5.heap.size] 138)) (fun e => by have := (hvt _ e).2.1; omega)
 have ho : Only (· = bb) w7 (w7.setCell ⟨bb, 0, none⟩ v7) := (Only.refl (· = bb) w7).setCell (p := ⟨bb, 0, none⟩) (fun _ => rfl) v7
 have hne : ¬ w5.heap.size = bb := by omega
 have hv7 : ∀ k, v7.ownBlock = some k -> (F k ∨ w4.heap.size <= k) /\ k ≠ bb := fun k e => by
  rcases hg.loc with x | x
  ·rw [x] at e; exact ⟨Or.inl (hvt k e).1, (hvt k e).2.2⟩
  ·rw [x] at e; injection e with e; simp only [World.size_alloc] at e; exact ⟨Or.inr (by omega), by omega⟩
 have hrow5 := hf5.own
 have hnew5 : ∀ k, (Value.slice A5 t.cols.length c5).ownBlock = some k -> w4.heap.size <= k /\ k < w5.heap.size := fun k e => ⟨hf5.new k e, (hrow5.lt k e).2⟩
 obtain ⟨A6, c6, e6, _, _, hrd⟩ := own_form hrow5
 injection e6 with e6 _ e7
 subst e6 e7
 have hrd7 := ((hrd.kept hq2 (fun _ _ x => x)).kept hg.only (fun k e x => by have := hnew5 k e; have := (hvt k x).2.1; omega)).kept ho (fun k e x => by have := hnew5 k e; omega)
 have tb := ho.get ht7 hne
 refine ⟨⟨v7, [w5.heap.size], vI, [], ⟨?_, ?_, ?_, ?_, ⟨Or.inl h.foot.1, fun k e => (hv7 k e).1, fun k e => Or.inl (h.foot.2.2 k e)⟩, h.num⟩, rfl, fun i e hi => by simp at hi⟩, ?_, ?_⟩
 ·rw [set_same b4]; rfl
 ·exact owns_kept hg.own ho (fun k e x => (hv7 k e).2 x)
 ·exact owns_kept (owns_kept (owns_kept h.rowI hq (fun _ _ x => x)) hg.only (fun k e x => (hvi k e).2.2 x)) ho (fun k e x => (hvi k e).2.1 x)
 ·intro i e hi
  rcases i with _ | i
  ·simp at hi
   subst hi
   exact ⟨w5.heap.size, rfl, ⟨_, _, tb, hrd7.mono (fun k e => Or.inr (hnew5 k e).1), hc5⟩, Or.inr hz5, hp, hn, A5, c5, tb, fun g e => ⟨Or.inr (hnew5 g e).1, by
     obtain ⟨cur, hh⟩ := own_blk hrow5 e
     exact ⟨cur, ho.get (hg.only.get (hq2.get hh (fun x => x)) (fun x => by have := hnew5 g e; have := (hvt g x).2.1; omega)) (fun x => by have x' : g = bb := x; have := hnew5 g e; omega)⟩⟩⟩
  ·simp at hi
 ·exact ((hq.mono (T := F) (fun _ _ x => x.elim)).trans' hg.only (fun k _ e => (hvt k e).1)).trans' ho (fun k _ e => by subst e; exact h.foot.1)
 ·rw [cell_of tb]; rfl
theorem elem_tbl : Elem Tryz.prog 129 138 1 8 := Elem.mk' (.pointer none) Tryz.underlying129 (by kernel_rfl) rfl (by decide)
def FirstPost (w : World) (F : Nat -> Prop) (bb last : Nat) (t : TE) (e : Ending) (w' : World) : Prop :=
 e = .returned (.tuple #[.int .u64 ((last : Int) + 1), .int .i64 0]) /\ Only F w w' /\ BookIs w' (fun k => F k ∨ w.heap.size <= k) bb [t] [] (last + 1)
set_option maxHeartbeats 2000000 in
theorem book_first {w : World} {F S S2 : Nat -> Prop} {bb lb last c c2 kd : Nat} {A A2 : Option Addr} {s : Snap} {name nm : ByteArray} (h : BookIs w F bb [] [] last) (hl : last < 1000000) (hnm : Small name) (hcn : Small nm) (hk : 1 <= kd /\ kd <= 3) (hu : U64 s.own)
  (hr : Rd w S2 2 A2 1 (colsV [(nm, kd)])) (hS : ∀ k, S2 k -> ¬ F k) (hc2 : 1 <= c2) (hm2 : c2 <= maxLen) :
  Calls Tryz.prog 25 #[.pointer (some ⟨bb, 0, none⟩), .pointer (some ⟨lb, 0, none⟩), snapV s A c, .string name, .slice A2 1 c2] w (FirstPost w F bb last ⟨last + 1, name, [(nm, kd)], s.own, 0⟩) := by
 have HQ0 : Hid (Quiet w (w.alloc (.cells (snapCells s A c) 73))) := (Only.refl _ _).alloc _
 have HNM : Hid (∀ W, Calls Tryz.prog 52 #[.string name] W (BoolQ W true)) := fun W => book_name name hnm W
 have HRI : Hid (∀ W, Quiet w W -> Calls Tryz.prog 53 #[.slice A2 1 c2] W (BoolQ W true)) := fun W hq => right_one (hr.kept hq (fun _ _ x => x)) hcn hk hc2 hm2
 have HTK : Hid (∀ W, Quiet w W -> Calls Tryz.prog 54 #[.pointer (some ⟨bb, 0, none⟩), .pointer (some ⟨lb, 0, none⟩), snapV s A c, .string name] W fun e w' => e = .returned (.int .i64 0) /\ Quiet W w') := fun W hq => taken_none (h.kept hq (fun _ _ x => x))
 have HB := Lib.hid (alloc_new w (.cells (snapCells s A c) 73))
 have HH := Lib.hid h
 have HR := Lib.hid hr
 have HS := Lib.hid hS
 unfold snapV at *
 clear h hr hS hnm hcn
 go_enter Tryz.func25, Tryz.ntmps25
 go_wp2_with fail
 refine (HNM.out _).mono ?_
 rintro e w1 ⟨rfl, hq1⟩
 have HQ1 := Lib.hid (HQ0.out.trans hq1)
 have HB1 := Lib.hid (hq1.get (by exact HB.out) (fun x => x))
 clear hq1 HB HQ0
 go_wp2_with fail
 refine (HRI.out _ HQ1.out).mono ?_
 rintro e w2 ⟨rfl, hq2⟩
 have HQ2 := Lib.hid (HQ1.out.trans hq2)
 have HB2 := Lib.hid (hq2.get HB1.out (fun x => x))
 obtain ⟨b0, b1, b2, b3⟩ := snapBox_cells HB2.out
 clear hq2 HB1 HQ1
 go_wp2_with fail
 refine (HTK.out _ HQ2.out).mono ?_
 rintro e w3 ⟨rfl, hq3⟩
 have HQ3 := Lib.hid (HQ2.out.trans hq3)
 have HB3 := Lib.hid (hq3.get HB2.out (fun x => x))
 clear b0 b1 b2 b3 hq3 HB2 HQ2 HTK HRI HNM
 obtain ⟨b0, b1, b2, b3⟩ := snapBox_cells HB3.out
 obtain ⟨vT, tps, vI, ips, hrow, hi0, _⟩ := HH.out.kept HQ3.out (fun _ _ x => x)
 have hips : ips = [] := List.eq_nil_of_length_eq_zero hi0
 have htps : tps = [] := List.eq_nil_of_length_eq_zero hrow.tlen
 subst hips htps
 obtain ⟨c0, _, _⟩ := hrow.cells
 obtain ⟨AT, cT, hvT, hcT, hmT, _⟩ := ptr_form hrow.rowT
 subst hvT
 rw [List.length_nil] at c0
 unfold maxLen at hmT
 have HFR : Hid (Calls Tryz.prog 55 #[.pointer (some ⟨bb, 0, none⟩), snapV s A c, .string name] w3 (FreshEPost w3 F bb [] (.slice AT 0 cT) [] vI [] last s.own name)) := book_fresh hrow hl
 unfold snapV at HFR
 clear hcT hrow hi0
 go_wp2_with fail
 refine HFR.out.mono ?_
 rintro e w4 ⟨rfl, ho4, hr4⟩
 have HO4 := Lib.hid ho4
 have HR4 := Lib.hid hr4
 have HRD4 : Hid (Rd w4 S2 2 A2 1 (colsV [(nm, kd)])) := (HR.out.kept HQ3.out (fun _ _ x => x)).kept ho4 (fun k x e => by subst e; exact HS.out _ x hr4.foot.1)
 clear ho4 hr4 HFR c0 b0 b1 b2 b3
 go_wp2_with fail
 refine (clone_cols A2 c2 [(nm, kd)] S2 w4 HRD4.out (by simp) (by simp)).mono ?_
 rintro e w5 ⟨v5, rfl, hf5⟩
 obtain ⟨A5, c5, hv5, hc5, hm5, _⟩ := own_form hf5.own
 subst hv5
 have HF5 := Lib.hid hf5
 have HC5 := Lib.hid (And.intro hc5 hm5)
 have hb5 := hf5.quiet.get HR4.out.box (fun x => x)
 have k0 := cell_of hb5 0
 have kf := fun o => frozen_of hb5 o
 simp only [zGA, zGS, zGZ] at k0
 have hbl5 : bb < w5.heap.size := lt_of_get hb5
 have hne5 : ¬ bb = w5.heap.size := by omega
 have hne6 : ¬ bb = w5.heap.size + 1 := by omega
 clear hf5 hc5 hm5 HRD4 hb5
 have HROW : Hid (World.ownsRow ((w5.alloc (.cells #[.int .u64 ((last : Int) + 1), .string name, .int .u64 (s.own : Int), .int .u64 0, .slice A5 1 c5] 144)).alloc (.cells #[ptrV w5.heap.size] 138)) 0 138 1 (.slice AT 0 cT) 0 []) :=
  owns_kept (owns_kept HR4.out.rowT HF5.out.quiet (fun _ _ x => x)) (((Only.refl (fun _ => False) w5).alloc _).alloc _) (fun _ _ x => x)
 have HRD : Hid (Rd ((w5.alloc (.cells #[.int .u64 ((last : Int) + 1), .string name, .int .u64 (s.own : Int), .int .u64 0, .slice A5 1 c5] 144)).alloc (.cells #[ptrV w5.heap.size] 138)) (fun _ => True) 1 (some ⟨w5.heap.size + 1, 0, none⟩) 1 [ptrV w5.heap.size]) := by
  have := Rd.one (w5.alloc (.cells #[.int .u64 ((last : Int) + 1), .string name, .int .u64 (s.own : Int), .int .u64 0, .slice A5 1 c5] 144)) (ptrV w5.heap.size) 138 (0, 0) (S := fun _ => True) trivial
  rw [World.size_alloc] at this
  exact this
 go_wp2_with (at_builtin; refine app elem_tbl rfl (.tmp 52) (.tmp 54) rfl rfl HROW.out rfl HRD.out (one_ptr [w5.heap.size]) (by unfold maxLen; omega) (by omega) ?_)
 intro v7 w7 hg7
 obtain ⟨A7, c7, hv7, _, _, _⟩ := own_form hg7.own
 subst hv7
 have HFI := Lib.hid (HR4.out.first (t := ⟨last + 1, name, [(nm, kd)], s.own, 0⟩) HF5.out HC5.out ⟨by simp, by simp⟩ ⟨by show last + 1 < 18446744073709551616; omega, hu, by show 0 < 18446744073709551616; omega⟩ hg7)
 have b7 := hg7.only.get ((((HF5.out.quiet.alloc (.cells #[.int .u64 ((last : Int) + 1), .string name, .int .u64 (s.own : Int), .int .u64 0, .slice A5 1 c5] 144)).alloc (.cells #[ptrV w5.heap.size] 138)).get HR4.out.box (fun x => x))) (fun e => by
   obtain ⟨c, hh⟩ := own_blk HR4.out.rowT e
   exact absurd rfl (ne_type HR4.out.box hh (by decide)))
 have s0 := cell_of b7 0
 have sf := fun o => frozen_of b7 o
 simp only [zGA, zGS, zGZ] at s0
 have hid : (w7.setCell ⟨bb, 0, none⟩ (.slice A7 (0 + 1) c7)).cell? ⟨w5.heap.size, 0, none⟩ = some (.int .u64 ((last : Int) + 1)) := HFI.out.2.2
 have HEND : Hid (FirstPost w F bb last ⟨last + 1, name, [(nm, kd)], s.own, 0⟩ (.returned (.tuple #[.int .u64 ((last : Int) + 1), .int .i64 0])) (w7.setCell ⟨bb, 0, none⟩ (.slice A7 (0 + 1) c7))) := by
  have hz3 := HQ3.out.size
  have hz4 := HO4.out.size
  refine ⟨rfl, (((HQ3.out.mono (T := F) (fun _ _ x => x.elim)).trans' HO4.out (fun k _ e => by subst e; exact HR4.out.foot.1)).trans HFI.out.2.1), HFI.out.1.mono (fun k x => ?_)⟩
  rcases x with x | x
  ·exact Or.inl x
  ·exact Or.inr (by omega)
 clear hg7 b7 HROW HRD HFI k0 kf
 simp only [Nat.zero_add] at hid HEND
 go_wp2
 go_ret2
 exact HEND.out
set_option maxHeartbeats 400000 in
theorem valid_empty (w : World) :
  Calls Tryz.prog 136 #[.string ⟨#[]⟩] w fun e w' => e = .returned (.bool true) /\ w = w' := by
 go_enter Tryz.func136, Tryz.ntmps136
 go_wp2
 refine wp_loop_rounds 1 ?_
 rw [rounds_succ]
 go_wp2
 go_ret
 exact ⟨rfl, rfl⟩
set_option maxHeartbeats 400000 in
theorem index_empty (w : World) :
  Calls Tryz.prog 137 #[.string ⟨#[]⟩, .int .u8 0] w fun e w' => e = .returned (.int .i64 (-1)) /\ w = w' := by
 go_enter Tryz.func137, Tryz.ntmps137
 go_wp2
 rw [run_callFunc_extern Tryz.func191 (by kernel_rfl) (by kernel_rfl) (by kernel_rfl) (e := Extern.BytealgIndexByte.indexByte) (by kernel_rfl), Lib.run_indexByteString]
 simp only [Result.andThen]
 rw [Oper.upon_value]
 go_wp2
 go_ret
 exact ⟨rfl, rfl⟩
abbrev intCells (n : Int) : Array Value := #[.int .u8 1, .int .i64 n, .string ⟨#[]⟩, .bool false]
set_option maxHeartbeats 1000000 in
theorem cell_right_int (n : Int) (w : World) :
  Calls Tryz.prog 101 #[.agg (intCells n)] w (BoolQ w true) := by
 have hqq : Hid (Quiet w ((w.alloc (.cells (intCells n) 50)).alloc (.cells (intCells 0) 50))) := ((Only.refl _ _).alloc _).alloc _
 go_enter Tryz.func101, Tryz.ntmps101
 go_wp2_with fail
 refine (valid_empty _).mono ?_
 rintro e w1 ⟨rfl, rfl⟩
 go_wp2_with fail
 refine (index_empty _).mono ?_
 rintro e w1 ⟨rfl, rfl⟩
 go_wp2
 go_ret
 exact ⟨rfl, hqq.out⟩
set_option maxHeartbeats 400000 in
theorem right_kind (k : Nat) (hk : 1 <= k /\ k <= 3) (w : World) :
  Calls Tryz.prog 135 #[.int .u8 (k : Int)] w fun e w' => e = .returned (.bool false) /\ w = w' := by
 have d0 : ((k : Int) == 0) = false := by simp; omega
 have d1 : decide (3 < (k : Int)) = false := decide_eq_false (by omega)
 go_enter Tryz.func135, Tryz.ntmps135
 go_wp2
 go_ret
 exact ⟨rfl, rfl⟩
set_option maxHeartbeats 400000 in
theorem index_kind {w : World} {S : Nat -> Prop} {A : Option Addr} {c k : Nat} (hr : Rd w S 1 A 1 [.int .u8 (k : Int)]) (hk : 1 <= k /\ k <= 3) (hc : 1 <= c) (hm : c <= maxLen) :
  Calls Tryz.prog 172 #[.slice A 1 c, .func (.func 135) #[] #[]] w fun e w' => e = .returned (.int .i64 (-1)) /\ w = w' := by
 obtain ⟨b, off, u, rfl, _, hu, hcell⟩ := hr.get (k := 0) (by omega)
 obtain rfl : Value.int .u8 (k : Int) = u := Option.some.inj hu
 rw [Nat.add_zero] at hcell
 unfold maxLen at hm
 clear hr hu
 go_enter Tryz.func172, Tryz.ntmps172
 go_wp2
 refine wp_loop_rounds 2 ?_
 rw [rounds_succ]
 go_wp2_with fail
 refine (right_kind k hk _).mono ?_
 rintro e w1 ⟨rfl, rfl⟩
 go_wp2
 rw [rounds_succ]
 go_wp2
 go_ret
 exact ⟨rfl, rfl⟩
set_option maxHeartbeats 400000 in
theorem has_kind {w : World} {S : Nat -> Prop} {A : Option Addr} {c k : Nat} (hr : Rd w S 1 A 1 [.int .u8 (k : Int)]) (hk : 1 <= k /\ k <= 3) (hc : 1 <= c) (hm : c <= maxLen) :
  Calls Tryz.prog 134 #[.slice A 1 c, .func (.func 135) #[] #[]] w fun e w' => e = .returned (.bool false) /\ w = w' := by
 have HI := Lib.hid (index_kind hr hk hc hm)
 go_enter Tryz.func134, Tryz.ntmps134
 go_wp2_with fail
 refine HI.out.mono ?_
 rintro e w1 ⟨rfl, rfl⟩
 go_wp2
 go_ret
 exact ⟨rfl, rfl⟩
set_option maxHeartbeats 1000000 in
theorem row_right {w : World} {S : Nat -> Prop} {A : Option Addr} {c k : Nat} (hr : Rd w S 1 A 1 [.int .u8 (k : Int)]) (hk : 1 <= k /\ k <= 3) (hc : 1 <= c) (hm : c <= maxLen) :
  Calls Tryz.prog 100 #[.slice A 1 c] w fun e w' => e = .returned (.bool true) /\ w = w' := by
 have HI := Lib.hid (has_kind hr hk hc hm)
 go_enter Tryz.func100, Tryz.ntmps100
 go_wp2_with fail
 refine HI.out.mono ?_
 rintro e w1 ⟨rfl, rfl⟩
 go_wp2
 go_ret
 exact ⟨rfl, rfl⟩
set_option maxHeartbeats 400000 in
theorem row_size_int (n : Int) (w : World) :
  Calls Tryz.prog 102 #[.agg (intCells n)] w fun e w' => e = .returned (.int .i64 8) /\ Quiet w w' := by
 have hqq : Hid (Quiet w (w.alloc (.cells (intCells n) 50))) := (Only.refl _ _).alloc _
 go_enter Tryz.func102, Tryz.ntmps102
 go_wp2
 go_ret
 exact ⟨rfl, hqq.out⟩
abbrev intRow (n : Int) : List Value := [.int .u8 1, .int .i64 n, .string ⟨#[]⟩, .bool false]
theorem intRow.get {w : World} {S : Nat -> Prop} {A : Option Addr} {n : Int} (h : Rd w S 4 A 1 (intRow n)) : ∃ b off, A = some ⟨b, off, none⟩ /\ S b /\ w.cell? ⟨b, off, none⟩ = some (.int .u8 1) /\ w.cell? ⟨b, off + 1, none⟩ = some (.int .i64 n) /\ w.cell? ⟨b, off + 2, none⟩ = some (.string ⟨#[]⟩) /\ w.cell? ⟨b, off + 3, none⟩ = some (.bool false) := by
 obtain ⟨b, off, rfl, hb, hc⟩ := h.cells (by show 0 < 4; decide)
 exact ⟨b, off, rfl, hb, hc 0 _ rfl, hc 1 _ rfl, hc 2 _ rfl, hc 3 _ rfl⟩
set_option maxHeartbeats 2000000 in
theorem row_fits_int {w : World} {S S2 : Nat -> Prop} {A A2 : Option Addr} {c c2 : Nat} {n : Int} (hk : Rd w S 1 A 1 [.int .u8 1]) (hv : Rd w S2 4 A2 1 (intRow n)) (hc : 1 <= c) (hm : c <= maxLen) (hc2 : 1 <= c2) (hm2 : c2 <= maxLen) :
  Calls Tryz.prog 59 #[.slice A 1 c, .slice A2 1 c2] w fun e w' => e = .returned (.int .i64 0) /\ Quiet w w' := by
 have HR : Hid (∀ W, Quiet w W -> Calls Tryz.prog 100 #[.slice A 1 c] W fun e w' => e = .returned (.bool true) /\ W = w') := fun W hq => row_right (k := 1) (hk.kept hq (fun _ _ x => x)) (by omega) hc hm
 obtain ⟨b, off, u, rfl, _, hu, hcell⟩ := hk.get (k := 0) (by omega)
 obtain rfl : Value.int .u8 1 = u := Option.some.inj hu
 rw [Nat.add_zero] at hcell
 obtain ⟨b2, off2, rfl, _, v0, v1, v2, v3⟩ := intRow.get hv
 have l1 := cell_lt hcell
 have l2 := cell_lt v0
 dsimp only at l1 l2
 unfold maxLen at hm hm2
 clear hk hv hu
 go_enter Tryz.func59, Tryz.ntmps59
 go_wp2_with fail
 refine (HR.out _ (Only.refl _ _)).mono ?_
 rintro e w1 ⟨rfl, rfl⟩
 go_wp2_with fail
 refine wp_loop_rounds 2 ?_
 rw [rounds_succ]
 go_wp2_with fail
 refine (cell_right_int n _).mono ?_
 rintro e w1 ⟨rfl, hq1⟩
 have hq0 : Quiet w w1 := ((Only.refl _ _).alloc _).trans hq1
 have HS := Lib.hid (row_size_int n)
 have v0' := hq0.cell v0 (fun x => x)
 have v1' := hq0.cell v1 (fun x => x)
 have v2' := hq0.cell v2 (fun x => x)
 have v3' := hq0.cell v3 (fun x => x)
 have hcell' := hq0.cell hcell (fun x => x)
 have HQ0 := Lib.hid hq0
 have l1' := cell_lt hcell'
 have l2' := cell_lt v0'
 dsimp only at l1' l2'
 clear v0 v1 v2 v3 hcell l1 l2 hq1 hq0
 go_wp2_with fail
 rw [rounds_succ]
 go_wp2_with fail
 refine wp_loop_rounds 2 ?_
 rw [rounds_succ]
 go_wp2_with fail
 go_quiet (fail)
 go_wp2_with fail
 refine (HS.out _).mono ?_
 rintro e w2 ⟨rfl, hq2⟩
 have hq3 : Quiet w w2 := ((HQ0.out.alloc _).drewN _).trans hq2
 clear hq2 v0' v1' v2' v3' hcell' HQ0 l1' l2'
 go_wp2_with fail
 rw [rounds_succ]
 go_wp2_with fail
 go_ret
 exact ⟨rfl, hq3⟩
def smallN (n k : Nat) : List Nat := (List.range k).map (fun i => if i = 0 then n else 0)
def rowI (n : Nat) : List Nat := 0 :: smallN n 8
theorem smallN_succ (n k : Nat) : smallN n (k + 1) = smallN n k ++ [if k = 0 then n else 0] := by simp [smallN, List.range_succ]
theorem smallN_length (n k : Nat) : (smallN n k).length = k := by simp [smallN]
theorem small_byte {n k : Nat} (hn : n < 256) (hk : k < 8) : (n : Int) / 2 ^ (8 * k) = ((if k = 0 then n else 0 : Nat) : Int) := by
 rcases Nat.eq_zero_or_pos k with rfl | h
 ·simp
 ·rw [if_neg (by omega)]
  have h1 : 256 <= 2 ^ (8 * k) := by
   have : 2 ^ 8 <= 2 ^ (8 * k) := Nat.pow_le_pow_right (by omega) (by omega)
   simpa using this
  have h2 : n / 2 ^ (8 * k) = 0 := Nat.div_eq_of_lt (by omega)
  have h3 : (n : Int) / 2 ^ (8 * k) = ((n / 2 ^ (8 * k) : Nat) : Int) := by push_cast; rfl
  rw [h3, h2]
theorem owns_one (w : World) (e : TypeId) (u : Value) : (w.alloc (.cells #[u] e)).ownsRow 0 e 1 (.slice (some ⟨w.heap.size, 0, none⟩) 1 1) 1 [u] :=
 ⟨by simp, .inr ⟨w.heap.size, 1, #[u], rfl, Nat.zero_le _, heap_alloc_new w _, Nat.le_refl _, by unfold maxLen; omega, rfl, by simp⟩⟩
section
variable {w wr w' : World} {v : Value} {l : List Nat}
theorem Fresh.quietly (h : Fresh w wr v l) (hq : Quiet wr w') : Fresh w w' v l := ⟨h.quiet.trans hq, h.new, owns_kept h.own hq (fun _ _ x => x)⟩
theorem Fresh.step {w4 : World} {v' : Value} {o : Obj} {x : Nat} (h : Fresh w wr v l) (hg : Grew (wr.alloc o) w4 5 1 v v' (l.length + 1) (bytesV l ++ bytesV [x])) : Fresh w w4 v' (l ++ [x]) := by
 have hsz := h.quiet.size
 refine ⟨(h.quiet.alloc _).trans' hg.only (fun k hk e => by have := h.new k e; omega), fun k e => ?_, ?_⟩
 ·rcases hg.loc with y | y
  ·rw [y] at e; exact h.new k e
  ·rw [y] at e; injection e with e; simp only [World.size_alloc] at e; omega
 ·rw [List.length_append, show bytesV (l ++ [x]) = bytesV l ++ bytesV [x] by simp [bytesV]]
  exact hg.own
end
def RowPost (w : World) (l : List Nat) (e : Ending) (w' : World) : Prop := ∃ v, e = .returned (.tuple #[v, .int .i64 0]) /\ Fresh w w' v l
set_option maxHeartbeats 2000000 in
theorem row_bytes_int {w : World} {S S2 : Nat -> Prop} {A A2 : Option Addr} {c c2 : Nat} {n : Nat} (hn : n < 256) (hk : Rd w S 1 A 1 [.int .u8 1]) (hv : Rd w S2 4 A2 1 (intRow n)) (hc : 1 <= c) (hm : c <= maxLen) (hc2 : 1 <= c2) (hm2 : c2 <= maxLen) :
  Calls Tryz.prog 28 #[.slice A 1 c, .slice A2 1 c2] w (RowPost w (rowI n)) := by
 have HF := Lib.hid (row_fits_int hk hv hc hm hc2 hm2)
 have HV := Lib.hid hv
 unfold maxLen at hm hm2
 clear hk hv
 go_enter Tryz.func28, Tryz.ntmps28
 go_wp2_with fail
 refine HF.out.mono ?_
 rintro e w1 ⟨rfl, hq1⟩
 obtain ⟨b2, off2, rfl, _, v0, v1, v2, v3⟩ := intRow.get (HV.out.kept hq1 (fun _ _ x => x))
 have l2 := cell_lt v0
 dsimp only at l2
 have HQ1 := Lib.hid hq1
 clear hq1 HF HV
 have HFR : Hid (Fresh w (w1.alloc (.cells #[.int .u8 0] 5)) (.slice (some ⟨w1.heap.size, 0, none⟩) 1 1) [0]) := ⟨HQ1.out.alloc _, fun k e => by injection e with e; simp only at e; have := HQ1.out.size; omega, owns_one _ _ _⟩
 go_wp2_with fail
 refine wp_loop_rounds 2 ?_
 rw [rounds_succ]
 go_wp2_with fail
 have hF0 : Fresh w ((w1.alloc (.cells #[.int .u8 0] 5)).alloc (.cells (intCells n) 50)) (.slice (some ⟨w1.heap.size, 0, none⟩) 1 1) [0] := HFR.out.quietly ((Only.refl _ _).alloc _)
 have hN0 : ((w1.alloc (.cells #[.int .u8 0] 5)).alloc (.cells (intCells n) 50)).cell? ⟨w1.heap.size + 1, 1, none⟩ = some (.int .i64 (n : Int)) := by
  have h := alloc_new (w1.alloc (.cells #[.int .u8 0] 5)) (.cells (intCells n) 50)
  rw [World.size_alloc] at h
  rw [cell_of h]; rfl
 have HF0 := Lib.hid hF0
 have HN0 := Lib.hid hN0
 clear hF0 hN0 HFR v0 v1 v2 v3 l2 HQ1
 have hbx : w1.heap.size + 1 ≠ w1.heap.size := by omega
 generalize hbb : w1.heap.size + 1 = bx at *
 have hbs : w1.heap.size ≠ bx := by omega
 go_loopw [45, 7, 10] (fun i o _ wr => ∃ (k : Nat) (v' : Value), k <= 8 /\ i = .int .i64 (k : Int) /\ o = v' /\ Fresh w wr v' (0 :: smallN n k) /\ wr.cell? ⟨bx, 1, none⟩ = some (.int .i64 (n : Int)) /\ (∀ j, v'.ownBlock = some j -> j ≠ bx)) (fun i _ _ _ => 8 - (intOf i).toNat)
 case atStart => exact ⟨0, _, Nat.zero_le _, rfl, rfl, HF0.out, HN0.out, fun j e => by injection e with e; simp only at e; omega⟩
 case round =>
  obtain ⟨k, v', hk, rfl, rfl, hW, hN, hb⟩ := hrel
  by_cases hlt : k < 8
  ·obtain ⟨x, hx⟩ : ∃ x : Nat, (if k = 0 then n else 0) = x := ⟨_, rfl⟩
   have hx256 : x < 256 := by rw [<- hx]; split <;> omega
   have e1 : (n : Int) / 2 ^ (8 * k) % 256 = (x : Int) := by rw [small_byte hn hlt, hx]; omega
   have HS := Lib.hid (smallN_succ n k)
   rw [hx] at HS
   have hl : (0 :: smallN n k).length = k + 1 := by rw [List.length_cons, smallN_length]
   have HRD : Hid (Rd (wr.alloc (.cells #[.int .u8 (x : Int)] 5)) (fun _ => True) 1 (some ⟨wr.heap.size, 0, none⟩) 1 (bytesV [x])) := Rd.new wr 1 1 (bytesV [x]) _ _ rfl trivial
   have HR1 := Lib.hid (owns_kept hW.own ((Only.refl (fun _ => False) wr).alloc (.cells #[.int .u8 (x : Int)] 5)) (fun _ _ x => x))
   have HW := Lib.hid hW
   have HB := Lib.hid hb
   have HL := Lib.hid hl
   have hbw := cell_lt hN
   dsimp only at hbw
   clear hW hb hl hx
   go_wp2_with (at_builtin; refine app elem_u8 rfl (.tmp 48) (.tmp 55) rfl rfl HR1.out rfl HRD.out (one_bytes [x]) (by rw [HL.out]; unfold maxLen; omega) (by rw [HL.out]; omega) ?_)
   intro v4 w4 hg4
   have HST := Lib.hid (HW.out.step hg4)
   have hN4 : w4.cell? ⟨bx, 1, none⟩ = some (.int .i64 (n : Int)) := hg4.only.cell (((Only.refl (fun _ => False) wr).alloc (.cells #[.int .u8 (x : Int)] 5)).cell hN (fun x => x)) (fun e => HB.out _ e rfl)
   have HB4 : Hid (∀ j, v4.ownBlock = some j -> j ≠ bx) := fun j e => by
    rcases hg4.loc with y | y
    ·rw [y] at e; exact HB.out j e
    ·rw [y] at e; injection e with e; simp only [World.size_alloc] at e; omega
   rw [List.cons_append, <- HS.out] at HST
   clear hg4 HR1 HRD HW HB HS e1 hN
   go_wp2
   go_roundw
   case rel => exact ⟨k + 1, _, by omega, by go_num, rfl, HST.out, hN4, HB4.out⟩
   case measure => simp [intOf]; omega
  ·obtain rfl : k = 8 := by omega
   have hFR : Fresh w wr u7 (rowI n) := hW
   clear hW hN hb
   go_wp2_with fail
   rw [rounds_succ]
   go_wp2_with fail
   go_ret2
   exact ⟨u7, rfl, hFR⟩
def soFar (n k : Nat) : Nat := if k = 0 then 0 else n
def TakePost (w : World) (n : Nat) (e : Ending) (w' : World) : Prop :=
 ∃ A c, e = .returned (.tuple #[.agg (intCells n), .slice A 0 c, .bool true]) /\ Quiet w w'
theorem results_cell_two {P : Program} {fn : Func} {p q r : Tmp} {ty : TypeId} (h : fn.results = #[.cell p ty, .tmp q, .tmp r]) (tmps : Array Value) (w : World) (g : Nat) (t : TypeId) (cs : Array Value) (fr : Nat × Nat) (d : TypeDesc)
  (hp : tmps.getD p undef = .pointer (some ⟨g, 0, none⟩)) (hg : w.heap[g]? = some (.cells cs t fr))
  (hu : P.underlying ty = some d) (hd : (match d with | .struct _ | .array _ _ => true | _ => false) = true) (hi : (P.info? ty).map (·.size) = some cs.size) :
  (results fn tmps).run P w = .ok (.tuple #[.agg cs, tmps.getD q undef, tmps.getD r undef]) w := by
 have hp' : tmps[p]?.getD undef = .pointer (some ⟨g, 0, none⟩) := by simpa using hp
 simp [results, h, hp', asAddr, run_loadVar_row w g t ty cs fr d hg hu hd hi]
theorem info_value : (Tryz.prog.info? 50).map (·.size) = some 4 := by kernel_rfl
theorem or_zero {n : Nat} (hn : n < 256) : bits BinOp.or IntKind.i64 ((0 : Nat) : Int) (n : Int) = (n : Int) /\ bits BinOp.or IntKind.i64 (n : Int) ((0 : Nat) : Int) = (n : Int) := by
 have key : ∀ m : Fin 256, bits BinOp.or IntKind.i64 ((0 : Nat) : Int) ((m.val : Nat) : Int) = (m.val : Int) /\ bits BinOp.or IntKind.i64 ((m.val : Nat) : Int) ((0 : Nat) : Int) = (m.val : Int) := by decide +kernel
 exact key ⟨n, hn⟩
theorem wrap_i64_of (x : Int) (h1 : -9223372036854775808 <= x) (h2 : x <= 9223372036854775807) : IntKind.i64.wrap x = x := by rw [IntKind.wrap_i64]; omega
set_option maxHeartbeats 2000000 in
theorem row_take_int {w : World} {S : Nat -> Prop} {b off c : Nat} {n : Nat} (hn : n < 256) (hr : Rd w S 1 (some ⟨b, off, none⟩) 8 (bytesV (smallN n 8))) (hc : 8 <= c) (hm : c <= maxLen) :
  Calls Tryz.prog 108 #[.int .u8 1, .slice (some ⟨b, off, none⟩) 8 c] w (TakePost w n) := by
 have hcell : ∀ k, k < 8 -> w.cell? ⟨b, off + k, none⟩ = some (.int .u8 ((if k = 0 then n else 0 : Nat) : Int)) := fun k hk => by
  obtain ⟨b', off', u, e, _, hu, hcl⟩ := hr.get (k := k) hk
  injection e with e
  injection e with e1 e2
  subst e1 e2
  rw [hcl, <- hu]
  simp only [bytesV, smallN, List.getElem?_map, List.getElem?_range hk, Option.map_some]
 have HC := Lib.hid hcell
 have hb0 := cell_lt (hcell 0 (by omega))
 dsimp only at hb0
 unfold maxLen at hm
 have hq0 : Quiet w ((w.alloc (.cells #[.int .u8 0, .int .i64 0, .string ⟨#[]⟩, .bool false] 50)).alloc (.cells #[.int .u8 1, .int .i64 0, .string ⟨#[]⟩, .bool false] 50)) := ((Only.refl _ _).alloc _).alloc _
 have hB1 : ((w.alloc (.cells #[.int .u8 0, .int .i64 0, .string ⟨#[]⟩, .bool false] 50)).alloc (.cells #[.int .u8 1, .int .i64 0, .string ⟨#[]⟩, .bool false] 50)).heap[w.heap.size]? = some (.cells #[.int .u8 0, .int .i64 0, .string ⟨#[]⟩, .bool false] 50 (0, 0)) := by
  exact alloc_old (alloc_new w _) _
 have hB2 : ((w.alloc (.cells #[.int .u8 0, .int .i64 0, .string ⟨#[]⟩, .bool false] 50)).alloc (.cells #[.int .u8 1, .int .i64 0, .string ⟨#[]⟩, .bool false] 50)).heap[w.heap.size + 1]? = some (.cells #[.int .u8 1, .int .i64 0, .string ⟨#[]⟩, .bool false] 50 (0, 0)) := by
  have h := alloc_new (w.alloc (.cells #[.int .u8 0, .int .i64 0, .string ⟨#[]⟩, .bool false] 50)) (.cells #[.int .u8 1, .int .i64 0, .string ⟨#[]⟩, .bool false] 50)
  rw [World.size_alloc] at h
  exact h
 have HQ0 := Lib.hid hq0
 have HB1 := Lib.hid hB1
 have HB2 := Lib.hid hB2
 clear hr hcell hq0 hB1 hB2
 obtain ⟨p1, hp1⟩ : ∃ p1, w.heap.size = p1 := ⟨_, rfl⟩
 obtain ⟨p2, hp2⟩ : ∃ p2, w.heap.size + 1 = p2 := ⟨_, rfl⟩
 rw [hp1] at HB1
 rw [hp2] at HB2
 rw [hp1] at hp2
 go_enter Tryz.func108, Tryz.ntmps108
 go_wp2_with fail
 go_loopw [18, 8] (fun i _ wr => ∃ k : Nat, k <= 8 /\ i = .int .i64 (k : Int) /\ Quiet w wr /\ wr.heap[p1]? = some (.cells #[.int .u8 0, .int .i64 0, .string ⟨#[]⟩, .bool false] 50 (0, 0)) /\ wr.heap[p2]? = some (.cells #[.int .u8 1, .int .i64 (soFar n k : Int), .string ⟨#[]⟩, .bool false] 50 (0, 0))) (fun i _ _ => 8 - (intOf i).toNat)
 case atStart => exact ⟨0, Nat.zero_le _, rfl, HQ0.out, HB1.out, HB2.out⟩
 case round =>
  obtain ⟨k, hk, rfl, hQ, hB1, hB2⟩ := hrel
  have HQ := Lib.hid hQ
  have HB1' := Lib.hid hB1
  have HB2' := Lib.hid hB2
  have c1 : wr.cell? ⟨p2, 1, none⟩ = some (.int .i64 (soFar n k : Int)) := cell_of hB2 1
  have lp2 := cell_lt c1
  dsimp only at lp2
  by_cases hlt : k < 8
  ·obtain ⟨x, hx⟩ : ∃ x : Nat, (if k = 0 then n else 0) = x := ⟨_, rfl⟩
   have q1 : wr.cell? ⟨b, off + k, none⟩ = some (.int .u8 (x : Int)) := by
    have := HC.out k hlt
    rw [hx] at this
    exact HQ.out.cell this (fun x => x)
   have hx256 : x < 256 := by rw [<- hx]; split <;> omega
   have esh : Op.shift BinOp.shl IntKind.i64 (IntKind.i64.wrap (x : Int)) IntKind.i64 (IntKind.i64.wrap (8 * (k : Int))) = (pure (.int .i64 (x : Int)) : Sem Value) := by
    rw [wrap_i64_of (x : Int) (by omega) (by omega), wrap_i64_of (8 * (k : Int)) (by omega) (by omega), shift_shl_any _ _ _ _ (by omega)]
    congr 2
    rcases Nat.eq_zero_or_pos k with h | h
    ·subst h
     simp
     exact wrap_i64_of (x : Int) (by omega) (by omega)
    ·have h0 : x = 0 := by rw [<- hx, if_neg (by omega)]
     subst h0
     simp
     rfl
   have eor : bits BinOp.or IntKind.i64 (soFar n k : Int) (x : Int) = (soFar n (k + 1) : Int) := by
    unfold soFar
    rw [if_neg (show ¬ k + 1 = 0 by omega)]
    rcases Nat.eq_zero_or_pos k with h | h
    ·subst h
     have h0 : n = x := hx
     rw [if_pos rfl, <- h0]
     exact (or_zero hn).1
    ·have h0 : x = 0 := by rw [<- hx, if_neg (by omega)]
     rw [if_neg (by omega), h0]
     exact (or_zero hn).2
   have f1 : wr.frozen? ⟨p2, 1, none⟩ = false := frozen_of hB2 1
   clear hQ hB1 hB2 HB1 HB2 HQ0
   go_wp2_with fail
   refine wp_region_last (S := fun w' => w'.cell? ⟨p2, 1, none⟩ = some (.int .i64 (soFar n k : Int)) /\ w'.cell? ⟨b, off + k, none⟩ = some (.int .u8 (x : Int))) (by kernel_rfl) (by kernel_rfl) (by simp) (⟨c1, q1⟩) (fun hHeld => ?_)
   simp only [List.pop_toArray, List.dropLast, List.size_toArray, List.length_cons, List.length_nil, Nat.reduceAdd, Nat.reduceSub]
   refine zT 0 ?_
   refine zT 1 ?_
   refine zT 2 ?_
   refine zT 3 ?_
   refine zT 4 ?_
   refine zT 5 ?_
   refine zT 6 ?_
   refine zT 7 ?_
   refine zT 8 ?_
   refine zT 9 ?_
   refine zT 10 ?_
   refine zT 11 ?_
   refine wpAnyH_done (by kernel_rfl) ?_ _
   refine last_step (o := ?_) ?_ ?_
   rotate_left 1
   (focus (simp only [zGA, zGZ, zGS] <;> rfl))
   intro K hK
   go_simp
   refine hK.out _ _ ?_
   clear hK K
   have hQ' : Quiet w (wr.setCell ⟨p2, 1, none⟩ (.int .i64 (soFar n (k + 1) : Int))).drew := (HQ.out.setCell (fun h => absurd h (by show ¬ p2 < w.heap.size; omega)) _).drew
   have hB1' : (wr.setCell ⟨p2, 1, none⟩ (.int .i64 (soFar n (k + 1) : Int))).drew.heap[p1]? = some (.cells #[.int .u8 0, .int .i64 0, .string ⟨#[]⟩, .bool false] 50 (0, 0)) := by
    exact set_other HB1'.out _ _ (by omega)
   have hB2' : (wr.setCell ⟨p2, 1, none⟩ (.int .i64 (soFar n (k + 1) : Int))).drew.heap[p2]? = some (.cells #[.int .u8 1, .int .i64 (soFar n (k + 1) : Int), .string ⟨#[]⟩, .bool false] 50 (0, 0)) := by
    exact set_same HB2'.out _ _
   generalize (wr.setCell ⟨p2, 1, none⟩ (.int .i64 (soFar n (k + 1) : Int))).drew = wn at *
   clear hHeld esh eor f1 q1 c1 lp2
   go_wp2_with fail
   go_roundw
   case rel => exact ⟨k + 1, by omega, by go_num, hQ', hB1', hB2'⟩
   case measure => simp [intOf]; omega
  ·obtain rfl : k = 8 := by omega
   have f0 : wr.frozen? ⟨p1, 0, none⟩ = false := frozen_of hB1 0
   have f1 : wr.frozen? ⟨p1, 1, none⟩ = false := frozen_of hB1 1
   have f2 : wr.frozen? ⟨p1, 2, none⟩ = false := frozen_of hB1 2
   have f3 : wr.frozen? ⟨p1, 3, none⟩ = false := frozen_of hB1 3
   have r0 : wr.cell? ⟨p1, 0, none⟩ = some (.int .u8 0) := cell_of hB1 0
   have r1 : wr.cell? ⟨p1, 1, none⟩ = some (.int .i64 0) := cell_of hB1 1
   have r2 : wr.cell? ⟨p1, 2, none⟩ = some (.string ⟨#[]⟩) := cell_of hB1 2
   have r3 : wr.cell? ⟨p1, 3, none⟩ = some (.bool false) := cell_of hB1 3
   have c0 : wr.cell? ⟨p2, 0, none⟩ = some (.int .u8 1) := cell_of hB2 0
   have c2 : wr.cell? ⟨p2, 2, none⟩ = some (.string ⟨#[]⟩) := cell_of hB2 2
   have c3 : wr.cell? ⟨p2, 3, none⟩ = some (.bool false) := cell_of hB2 3
   have hne : p1 ≠ p2 := by omega
   clear hQ HB1 HB2 HQ0 hB1 hB2
   go_wp2_with fail
   go_region
   have HQ4 : Hid (Quiet w (fourSet wr p1 (.int .u8 1) (.int .i64 (soFar n 8 : Int)) (.string ⟨#[]⟩) (.bool false)).drew) := (HQ.out.trans' (fourSet_only wr p1 _ _ _ _) (fun k hk e => by omega)).drew
   have HX : Hid ((fourSet wr p1 (.int .u8 1) (.int .i64 (soFar n 8 : Int)) (.string ⟨#[]⟩) (.bool false)).drew.heap[p1]? = some (.cells #[.int .u8 1, .int .i64 (soFar n 8 : Int), .string ⟨#[]⟩, .bool false] 50 (0, 0))) := fourSet_same HB1'.out _ _ _ _
   unfold fourSet at HQ4 HX
   clear HQ HB1' HB2' f0 f1 f2 f3 r0 r1 r2 r3 c0 c2 c3 c1
   go_wp2
   all_goals exact bodyPost_ret (results_cell_two Tryz.results108 _ _ p1 _ _ (0, 0) _ (by rfl) HX.out Tryz.underlying50 rfl info_value) (by rfl) ⟨_, _, rfl, HQ4.out⟩
theorem elem_val : Elem Tryz.prog 36 50 4 40 := Elem.mk' (.agg #[.int .u8 0, .int .i64 0, .string ⟨#[]⟩, .bool false]) Tryz.underlying36 (by kernel_rfl) rfl (by decide)
structure FreshV (w w' : World) (v : Value) (n : Nat) : Prop where
 quiet : Quiet w w'
 new : ∀ k, v.ownBlock = some k -> w.heap.size <= k
 own : w'.ownsRow 0 50 4 v 1 (intRow n)
def ReadPost (w : World) (n : Nat) (e : Ending) (w' : World) : Prop := ∃ v, e = .returned (.tuple #[v, .int .i64 0]) /\ FreshV w w' v n
set_option maxHeartbeats 2000000 in
theorem row_read_int {w : World} {S S2 : Nat -> Prop} {A A2 : Option Addr} {c c2 : Nat} {n : Nat} (hn : n < 256) (hk : Rd w S 1 A 1 [.int .u8 1]) (hv : Rd w S2 1 A2 9 (bytesV (rowI n))) (hc : 1 <= c) (hm : c <= maxLen) (hc2 : 9 <= c2) (hm2 : c2 <= maxLen) :
  Calls Tryz.prog 64 #[.slice A 1 c, .slice A2 9 c2] w (ReadPost w n) := by
 have HR := Lib.hid (row_right (k := 1) hk (by omega) hc hm)
 obtain ⟨b, off, u, rfl, _, hu, hcell⟩ := hk.get (k := 0) (by omega)
 obtain rfl : Value.int .u8 1 = u := Option.some.inj hu
 rw [Nat.add_zero] at hcell
 obtain ⟨b2, off2, rfl, _, hcs⟩ := hv.cells (by rw [bytes_len]; simp [rowI])
 have q0 : w.cell? ⟨b2, off2, none⟩ = some (.int .u8 0) := hcs 0 _ rfl
 have HT : Hid (Rd w (fun _ => True) 1 (some ⟨b2, off2 + 1, none⟩) 8 (bytesV (smallN n 8))) := by
  refine ⟨by rw [bytes_len, smallN_length], fun _ => ⟨b2, off2 + 1, rfl, trivial, fun j u hj => ?_⟩⟩
  have := hcs (j + 1) u (by unfold rowI bytesV at *; rw [List.map_cons, List.getElem?_cons_succ]; exact hj)
  rw [Nat.add_assoc, Nat.add_comm 1 j]
  exact this
 have l1 := cell_lt hcell
 have l2 := cell_lt q0
 dsimp only at l1 l2
 unfold maxLen at hm hm2
 clear hk hv hu hcs
 go_enter Tryz.func64, Tryz.ntmps64
 go_wp2_with fail
 refine HR.out.mono ?_
 rintro e w1 ⟨rfl, rfl⟩
 clear HR
 go_wp2_with fail
 go_quiet (fail)
 have hq0 : Quiet w (w.drewN nq) := (Only.refl _ _).drewN _
 have HT' := Lib.hid (HT.out.kept hq0 (fun _ _ x => x))
 have hcell' := hq0.cell hcell (fun x => x)
 have hsz : (w.drewN nq).heap.size = w.heap.size := rfl
 rw [<- hsz] at l1 l2
 have HQ0 := Lib.hid hq0
 clear HT hcell q0 hsz hq0
 generalize w.drewN nq = wd at *
 go_wp2_with fail
 refine wp_loop_rounds 2 ?_
 rw [rounds_succ]
 go_wp2_with fail
 have hq1 : Quiet wd (wd.alloc (.cells (#[.int .u8 0, .int .i64 0, .string ⟨#[]⟩, .bool false] : Array Value) 50)) := (Only.refl _ _).alloc _
 refine (row_take_int hn (HT'.out.kept hq1 (fun _ _ x => x)) (by omega) (by unfold maxLen; omega)).mono ?_
 rintro e w2 ⟨A3, c3, rfl, hq2⟩
 have hB : w2.heap[wd.heap.size]? = some (.cells #[.int .u8 0, .int .i64 0, .string ⟨#[]⟩, .bool false] 50 (0, 0)) := hq2.get (alloc_new wd _) (fun x => x)
 have hq3 := HQ0.out.trans (hq1.trans hq2)
 have hs3 : w.heap.size <= wd.heap.size := HQ0.out.size
 obtain ⟨pv, hpv⟩ : ∃ pv, wd.heap.size = pv := ⟨_, rfl⟩
 rw [hpv] at hB hs3
 have f0 : w2.frozen? ⟨pv, 0, none⟩ = false := frozen_of hB 0
 have f1 : w2.frozen? ⟨pv, 1, none⟩ = false := frozen_of hB 1
 have f2 : w2.frozen? ⟨pv, 2, none⟩ = false := frozen_of hB 2
 have f3 : w2.frozen? ⟨pv, 3, none⟩ = false := frozen_of hB 3
 have r0 : w2.cell? ⟨pv, 0, none⟩ = some (.int .u8 0) := cell_of hB 0
 have r1 : w2.cell? ⟨pv, 1, none⟩ = some (.int .i64 0) := cell_of hB 1
 have r2 : w2.cell? ⟨pv, 2, none⟩ = some (.string ⟨#[]⟩) := cell_of hB 2
 have r3 : w2.cell? ⟨pv, 3, none⟩ = some (.bool false) := cell_of hB 3
 have HQ3 : Hid (Quiet w (fourSet w2 pv (.int .u8 1) (.int .i64 (n : Int)) (.string ⟨#[]⟩) (.bool false))) := hq3.trans' (fourSet_only w2 pv _ _ _ _) (fun k hk e => by omega)
 unfold fourSet at HQ3
 clear HT' hcell' HQ0 hq1 hq2 hq3 hB l1 l2
 have HS5 : Hid (w2.heap.size = ((((w2.setCell ⟨pv, 0, none⟩ (.int .u8 1)).setCell ⟨pv, 1, none⟩ (.int .i64 (n : Int))).setCell ⟨pv, 2, none⟩ (.string ⟨#[]⟩)).setCell ⟨pv, 3, none⟩ (.bool false)).heap.size) := by simp [Hid, World.setCell]
 have HRD : ∀ W : World, Hid (Rd (W.alloc (.cells #[.int .u8 1, .int .i64 (n : Int), .string ⟨#[]⟩, .bool false] 50)) (fun _ => True) 4 (some ⟨W.heap.size, 0, none⟩) 1 (intRow n)) := fun W => Rd.new W 4 1 (intRow n) _ _ rfl trivial
 have HRD2 := Lib.hid (HRD ((((w2.setCell ⟨pv, 0, none⟩ (.int .u8 1)).setCell ⟨pv, 1, none⟩ (.int .i64 (n : Int))).setCell ⟨pv, 2, none⟩ (.string ⟨#[]⟩)).setCell ⟨pv, 3, none⟩ (.bool false))).out
 rw [<- HS5.out] at HRD2
 have HONE : Hid (∀ u ∈ intRow n, u.oneCell' = true) := fun u hu => by
  simp only [intRow, List.mem_cons, List.not_mem_nil, or_false] at hu
  rcases hu with rfl | rfl | rfl | rfl <;> rfl
 clear HRD
 go_wp2_with (at_builtin; refine app elem_val rfl (.tmp 61) (.tmp 63) rfl rfl (World.ownsRow_nil _ _ _ _) rfl HRD2.out HONE.out (by unfold maxLen; omega) (by omega) ?_)
 intro v4 w4 hg4
 have HF : Hid (FreshV w w4 v4 n) := by
  refine ⟨(HQ3.out.alloc _).trans' hg4.only (fun k hk e => by cases e), fun k e => ?_, hg4.own⟩
  rcases hg4.loc with y | y
  ·rw [y] at e; cases e
  ·rw [y] at e; injection e with e; simp only [World.size_alloc] at e; have := HQ3.out.size; omega
 clear hg4 HRD2 HONE HS5 HQ3 f0 f1 f2 f3 r0 r1 r2 r3
 go_wp2_with fail
 rw [rounds_succ]
 go_wp2_with fail
 go_ret2
 exact ⟨v4, rfl, HF.out⟩
end Go.Proofs.YthipgglplneijaaGreatDoor
