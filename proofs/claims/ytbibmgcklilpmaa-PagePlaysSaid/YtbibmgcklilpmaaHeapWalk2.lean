/- The contracts of package heap: Insert. No condition. -/
import Derived.Test.YtbibmgcklilpmaaHeapWalk
import Derived.Deep.RegionLawGrows
namespace Go.Lap

/-- The first page with so much room. -/
def findH (H : List (List (Option Tup))) (n : Nat) : Option Nat := H.findIdx? (fun T => decide ((n : Int) ≤ roomT T))

/-- What Insert tells (page, slot, error), the pages and the pool behind it. -/
def hIns (H : List (List (Option Tup))) (left : Nat) (t : Tup) : (Int × Int × Int) × List (List (Option Tup)) × Nat :=
  if t.rightB = false then ((0, 0, 3), H, left) else
    match findH H t.data.length with
    | some i => ((i, freeT (H.getD i []), 0), H.set i (insT (H.getD i []) t), left)
    | none => if left = 0 then ((0, 0, 12), H, left) else ((H.length, 0, 0), H ++ [[some t]], left - 1)

theorem find_rooms (H : List (List (Option Tup))) (n : Nat) : rFind (H.map roomT) (n : Int) = match findH H n with | some i => ((i : Int), true) | none => (0, false) := by
  unfold rFind findH
  rw [List.findIdx?_map]
  rw [show max (n : Int) 0 = n by omega]
  rfl

theorem findH_some {H : List (List (Option Tup))} {n i : Nat} (h : findH H n = some i) : ∃ T, H[i]? = some T ∧ (n : Int) ≤ roomT T := by
  unfold findH at h
  rw [List.findIdx?_eq_some_iff_getElem] at h
  obtain ⟨hi, h1, _⟩ := h
  exact ⟨H[i], List.getElem?_eq_getElem hi, of_decide_eq_true h1⟩

end Go.Lap
namespace Go.Proofs.Ytbibmgcklilpmaa
open Go.RowKit Go.Lap

theorem elem_page : Elem Try.prog 148 55 1 8 := Elem.mk' (.pointer none) Try.underlying148 (by kernel_rfl) rfl (by decide)

theorem info_tid : (Try.prog.info? 51).map (·.size) = some 2 := by kernel_rfl

theorem two_set {W : World} {b : Nat} {c0 c1 : Value} {t : TypeId} (h : W.heap[b]? = some (.cells #[c0, c1] t (0, 0))) (x y : Value) : ((W.setCell ⟨b, 0, none⟩ x).setCell ⟨b, 1, none⟩ y).heap[b]? = some (.cells #[x, y] t (0, 0)) := by
  rw [set_same (set_same h _ _)]
  rfl
theorem two_only (W : World) (b : Nat) (x y : Value) : Only (· = b) W ((W.setCell ⟨b, 0, none⟩ x).setCell ⟨b, 1, none⟩ y) :=
  ((Only.refl (· = b) W).setCell (p := ⟨b, 0, none⟩) (fun _ => rfl) x).setCell (p := ⟨b, 1, none⟩) (fun _ => rfl) y

/-- In Insert: the version in its box, the place in its own; of what was there G alone has turned. -/
structure InsW (G : Nat → Prop) (w W : World) (t : Tup) (A : Option Addr) (cap : Nat) : Prop where
  only : Only G w W
  box : W.heap[w.heap.size]? = some (.cells #[.int .u64 t.row, .int .u64 t.xmin, .int .u64 t.xmax, .int .i64 t.pg, .int .i64 t.sl, .slice A t.data.length cap] 54 (0, 0))
  tid : W.heap[w.heap.size + 1]? = some (.cells #[.int .i64 0, .int .i64 0] 51 (0, 0))

section
variable {G : Nat → Prop} {w W W' : World} {t : Tup} {A : Option Addr} {cap : Nat}
theorem InsW.start (w : World) (t : Tup) (A : Option Addr) (cap : Nat) : InsW (fun _ => False) w ((w.alloc (.cells #[.int .u64 t.row, .int .u64 t.xmin, .int .u64 t.xmax, .int .i64 t.pg, .int .i64 t.sl, .slice A t.data.length cap] 54)).alloc (.cells #[.int .i64 0, .int .i64 0] 51)) t A cap :=
  ⟨((Only.refl _ _).alloc _).alloc _, alloc_old (alloc_new _ _) _, two_new _ _ _⟩

theorem InsW.on {S : Nat → Prop} (h : InsW G w W t A cap) (ho : Only S W W') (h1 : ∀ k, k < w.heap.size → S k → G k) (h2 : ∀ k, w.heap.size ≤ k → k < w.heap.size + 2 → ¬ S k) : InsW G w W' t A cap :=
  ⟨h.only.trans' ho h1, ho.get h.box (h2 _ (by omega) (by omega)), ho.get h.tid (h2 _ (by omega) (by omega))⟩

theorem InsW.mono {G' : Nat → Prop} (h : InsW G w W t A cap) (hg : ∀ k, G k → G' k) : InsW G' w W t A cap := ⟨h.only.mono (fun k _ x => hg k x), h.box, h.tid⟩
theorem InsW.quietly (h : InsW G w W t A cap) (hq : Quiet W W') : InsW G w W' t A cap := h.on hq (fun _ _ x => x.elim) (fun _ _ _ x => x)
theorem InsW.drew (h : InsW G w W t A cap) : InsW G w W.drew t A cap := ⟨h.only.drew, h.box, h.tid⟩
theorem InsW.drewN (h : InsW G w W t A cap) (n : Nat) : InsW G w (W.drewN n) t A cap := ⟨h.only.drewN n, h.box, h.tid⟩
theorem InsW.lt (h : InsW G w W t A cap) : w.heap.size + 1 < W.heap.size := lt_of_get h.tid
theorem InsW.cells (h : InsW G w W t A cap) : W.cell? ⟨w.heap.size + 1, 0, none⟩ = some (.int .i64 0) ∧ W.cell? ⟨w.heap.size + 1, 1, none⟩ = some (.int .i64 0) ∧ ∀ o, W.frozen? ⟨w.heap.size + 1, o, none⟩ = false :=
  ⟨by rw [cell_of h.tid]; rfl, by rw [cell_of h.tid]; rfl, fun o => frozen_of h.tid o⟩
theorem InsW.end_ (h : InsW G w W t A cap) (x y : Value) : Only G w ((W.setCell ⟨w.heap.size + 1, 0, none⟩ x).setCell ⟨w.heap.size + 1, 1, none⟩ y) :=
  h.only.trans' (two_only W _ x y) (fun k hk e => by omega)

/-- What a page of its own tells. -/
theorem own_page (t : Tup) (A : Option Addr) (cap : Nat) (S : Nat → Prop) (hby : ∀ x ∈ t.data, x < 256) (hd : Rd w S 1 A t.data.length (bytesV t.data)) (W w1 : World) (q : Nat) (h : InsW (fun _ => False) w W t A cap) (hq : Quiet W.drew w1) (hp : PageT w1 q []) (hq' : w.heap.size + 2 ≤ q) :
    Calls Try.prog 30 #[.pointer (some ⟨q, 0, none⟩), tupV t A cap] w1 fun e w' => e = .returned (.tuple #[.int .i64 0, .int .i64 (if t.rightB then 0 else 3)]) ∧ InsW (fun _ => False) w w' t A cap := by
  have h1 := h.drew.quietly hq
  have := pageT_insert q [] t A cap _ w1 hp hby (hd.kept h1.only (fun _ _ x => x))
  have hr : (pInsT [] t).1 = 0 ∧ (pInsT [] t).2.1 = if t.rightB then 0 else 3 := by
    unfold pInsT
    rcases e : t.rightB with _ | _
    · exact ⟨rfl, rfl⟩
    · rw [if_neg (by simp), if_neg (by
        have : t.data.length ≤ 200 := (of_decide_eq_true e).2.2.2.2
        have : roomT [] = 474 := by decide
        omega)]
      exact ⟨rfl, rfl⟩
  rw [hr.1, hr.2] at this
  exact this.mono fun e w' ⟨a, b, c⟩ => ⟨a, h1.on b (fun k hk e => by omega) (fun k h1 h2 e => by omega)⟩
end

set_option maxHeartbeats 1000000 in
set_option maxRecDepth 100000 in
theorem heap_insert_form (hb : Nat) (t : Tup) (A : Option Addr) (cap : Nat) (S : Nat → Prop) (w : World) (ht : t.rightB = false) (hby : ∀ x ∈ t.data, x < 256) (hd : Rd w S 1 A t.data.length (bytesV t.data)) :
    Calls Try.prog 43 #[.pointer (some ⟨hb, 0, none⟩), tupV t A cap] w fun e w' => e = .returned (.tuple #[.agg #[.int .i64 0, .int .i64 0], .int .i64 3]) ∧ Quiet w w' := by
  have HI := Lib.hid (own_page t A cap S hby hd)
  have H0 := Lib.hid (InsW.start w t A cap)
  simp only [ht, Bool.false_eq_true, if_false, if_true] at HI
  unfold tupV at HI ⊢
  clear ht hby hd
  go_enter Try.func43, Try.ntmps43
  go_wp2_with fail
  go_region_held3 (fun w' => w'.cell? ⟨w.heap.size, 0, none⟩ = some (.int .u64 t.row) ∧ w'.cell? ⟨w.heap.size, 1, none⟩ = some (.int .u64 t.xmin) ∧ w'.cell? ⟨w.heap.size, 2, none⟩ = some (.int .u64 t.xmax) ∧ w'.cell? ⟨w.heap.size, 3, none⟩ = some (.int .i64 t.pg) ∧ w'.cell? ⟨w.heap.size, 4, none⟩ = some (.int .i64 t.sl) ∧ w'.cell? ⟨w.heap.size, 5, none⟩ = some (.slice A t.data.length cap))
    (first | go_keep | exact box_cells H2.out.box | exact box_cells H1.out.box | fail)
    (first
      | (go_at_call 29; go_must (refine (pageT_new _).mono ?_; rintro e w1 ⟨rfl, hq1, hs1, hp1⟩; have H1 := Lib.hid (H0.out.drew.quietly hq1); have HQ1 := Lib.hid hq1; simp only [World.size_drew, World.size_alloc] at hp1; have HP1 := Lib.hid hp1; clear hq1 hp1 hs1))
      | (go_at_call 30; go_must (refine (HI.out _ _ _ H0.out HQ1.out HP1.out (by omega)).mono ?_; rintro e w2 ⟨rfl, h2⟩; have H2 := Lib.hid h2; clear h2))
      | fail)
  clear HI H0 HQ1 HP1 H1
  obtain ⟨t0, t1, tf⟩ := H2.out.cells
  go_wp2_with fail
  exact bodyPost_ret (results_cell_tmp Try.results43 _ _ (w.heap.size + 1) _ _ (0, 0) _ (by rfl) (two_set H2.out.tid _ _) Try.underlying51 rfl info_tid) (by rfl) ⟨rfl, H2.out.end_ _ _⟩

/-- What the walk of a found page needs. -/
theorem set_rooms (H : List (List (Option Tup))) (i : Nat) (T : List (Option Tup)) (hi : i < H.length) : setL (H.map roomT) i (roomT T) = (H.set i T).map roomT := by
  unfold setL
  rw [if_neg (by simp; omega), List.map_set]

theorem ins_new (t : Tup) (ht : t.rightB = true) : pInsT [] t = (0, 0, [some t]) := by
  unfold pInsT
  rw [if_neg (by simp [ht]), if_neg (by
    have : t.data.length ≤ 200 := (of_decide_eq_true ht).2.2.2.2
    have : roomT [] = 474 := by decide
    omega)]
  rfl

theorem ins_room {T : List (Option Tup)} {t : Tup} (ht : t.rightB = true) (hr : (t.data.length : Int) ≤ roomT T) : pInsT T t = ((freeT T : Int), 0, insT T t) := by
  unfold pInsT
  rw [if_neg (by simp [ht]), if_neg (by omega)]

set_option maxHeartbeats 1000000 in
set_option maxRecDepth 100000 in
theorem heap_insert_found (hb pb : Nat) (F : Nat → Prop) (H : List (List (Option Tup))) (T : List (Option Tup)) (i : Nat) (t : Tup) (A : Option Addr) (cap : Nat) (S : Nat → Prop) (w : World) (h : HeapIs w hb pb F H) (ht : t.rightB = true) (hf : findH H t.data.length = some i) (hT : H[i]? = some T)
    (hby : ∀ x ∈ t.data, x < 256) (hd : Rd w S 1 A t.data.length (bytesV t.data)) :
    Calls Try.prog 43 #[.pointer (some ⟨hb, 0, none⟩), tupV t A cap] w fun e w' => e = .returned (.tuple #[.agg #[.int .i64 (i : Int), .int .i64 (freeT T : Int)], .int .i64 0]) ∧ Only F w w' ∧ HeapIs w' hb pb F (H.set i (insT T t)) := by
  have HI := Lib.hid (own_page t A cap S hby hd)
  have H0 := Lib.hid (InsW.start w t A cap)
  simp only [ht, Bool.false_eq_true, if_false, if_true] at HI
  have h256 := h.most
  obtain ⟨v, ps, rb, h⟩ := h.lim
  have hfr := find_rooms H t.data.length
  rw [hf] at hfr
  have hil : i < H.length := (List.getElem?_eq_some_iff.1 hT).1
  obtain ⟨p, hp, hpt⟩ := h.pg i T hT
  obtain ⟨T', hT', hrm⟩ := findH_some hf
  obtain rfl : T = T' := by rw [hT] at hT'; injection hT'
  have HIN : Hid (∀ w1, Quiet w w1 → Calls Try.prog 30 #[.pointer (some ⟨p, 0, none⟩), tupV t A cap] w1 fun e w' => e = .returned (.tuple #[.int .i64 (freeT T : Int), .int .i64 0]) ∧ Only (· = p) w1 w' ∧ PageT w' p (insT T t)) := fun w1 hq => by
    have := pageT_insert p T t A cap _ w1 (hpt.kept hq (fun x => x)) hby (hd.kept hq (fun _ _ x => x))
    rw [ins_room ht hrm] at this
    exact this
  obtain ⟨B, c, hv, hc, hm, hr⟩ := h.rowForm
  obtain ⟨g, rfl, hg⟩ := hr i p hp
  have hall := h.cells
  rw [hv] at hall
  obtain ⟨c0, c1, c2⟩ := hall
  have hl1 := lt_of_get h.box
  have hl2 := cell_lt hg
  have HH := Lib.hid h
  have HFR := Lib.hid hfr
  have HHP := Lib.hid hp
  have HV := Lib.hid hv
  unfold maxLen at hm
  unfold tupV at HI HIN ⊢
  clear ht hby hd hf h hfr hr hpt hT' hrm hp hv
  go_enter Try.func43, Try.ntmps43
  go_wp2_with fail
  go_region_held3 (fun w' => w'.cell? ⟨w.heap.size, 0, none⟩ = some (.int .u64 t.row) ∧ w'.cell? ⟨w.heap.size, 1, none⟩ = some (.int .u64 t.xmin) ∧ w'.cell? ⟨w.heap.size, 2, none⟩ = some (.int .u64 t.xmax) ∧ w'.cell? ⟨w.heap.size, 3, none⟩ = some (.int .i64 t.pg) ∧ w'.cell? ⟨w.heap.size, 4, none⟩ = some (.int .i64 t.sl) ∧ w'.cell? ⟨w.heap.size, 5, none⟩ = some (.slice A t.data.length cap))
    (first | go_keep | exact box_cells H2.out.box | exact box_cells H1.out.box | fail)
    (first
      | (go_at_call 29; go_must (refine (pageT_new _).mono ?_; rintro e w1 ⟨rfl, hq1, hs1, hp1⟩; have H1 := Lib.hid (H0.out.drew.quietly hq1); have HQ1 := Lib.hid hq1; simp only [World.size_drew, World.size_alloc] at hp1; have HP1 := Lib.hid hp1; clear hq1 hp1 hs1))
      | (go_at_call 30; go_must (refine (HI.out _ _ _ H0.out HQ1.out HP1.out (by omega)).mono ?_; rintro e w2 ⟨rfl, h2⟩; have H2 := Lib.hid h2; clear h2))
      | fail)
  clear HI H0 HQ1 HP1 H1
  have HH2 := Lib.hid (HH.out.kept H2.out.only (fun _ _ x => x))
  obtain ⟨b0, b1, b2, b3, b4, b5⟩ := box_cells H2.out.box
  have k1 := H2.out.only.cell c1 (fun x => x)
  have k2 := H2.out.only.cell c2 (fun x => x)
  have kg := H2.out.only.cell hg (fun x => x)
  have d0 : decide ((i : Int) < 0) = false := by simp
  have d1 : decide ((H.length : Int) ≤ i) = false := by simp; omega
  clear c0 c1 c2 hg
  go_wp2_with fail
  go_quiet ((go_at_call 22; exact quiet_left (room_find rb _ _ _ (HH2.out.room.drewN _))))
  rw [HFR.out]
  go_wp2_with fail
  have HNE : Hid ((¬ hb = p) ∧ (¬ g = p) ∧ p < w.heap.size) := ⟨fun e => HH.out.apart.ph p (List.mem_of_getElem? HHP.out) e.symm, fun e => HH.out.apart.vp g (by rw [HV.out]; rfl) p (List.mem_of_getElem? HHP.out) e, by obtain ⟨d, hd⟩ := HH.out.pblk (List.mem_of_getElem? HHP.out); exact lt_of_get hd⟩
  go_region_held3 (fun w' => w'.cell? ⟨hb, 1, none⟩ = some (.slice (some ⟨g, 0, none⟩) H.length c) ∧ w'.cell? ⟨g, i, none⟩ = some (ptrV p) ∧ w'.cell? ⟨w.heap.size, 0, none⟩ = some (.int .u64 t.row) ∧ w'.cell? ⟨w.heap.size, 1, none⟩ = some (.int .u64 t.xmin) ∧ w'.cell? ⟨w.heap.size, 2, none⟩ = some (.int .u64 t.xmax) ∧ w'.cell? ⟨w.heap.size, 3, none⟩ = some (.int .i64 t.pg) ∧ w'.cell? ⟨w.heap.size, 4, none⟩ = some (.int .i64 t.sl) ∧ w'.cell? ⟨w.heap.size, 5, none⟩ = some (.slice A t.data.length cap))
    (first | go_keep | exact ⟨ho4.cell (by exact k1) HNE.out.1, ho4.cell (by exact kg) HNE.out.2.1, box_cells (ho4.get (by exact H2.out.box) (by have := HNE.out.2.2; omega))⟩ | fail)
    (first
      | (go_at_call 30; go_must (refine (HIN.out _ (H2.out.only.drewN _)).mono ?_; rintro e w4 ⟨rfl, ho4, hp4⟩))
      | fail)
  have HH4 := Lib.hid ((HH2.out.drewN _).turn HHP.out ho4 hp4)
  have H4 : Hid (InsW F w w4 t A cap) := ((H2.out.drewN _).mono (fun _ x => x.elim)).on ho4 (fun k _ e => by subst e; exact (HH.out.foot.2.2.1 k (List.mem_of_getElem? HHP.out)).1) (fun k h1 h2 e => by have := HNE.out.2.2; omega)
  clear ho4 hp4 HH2 H2 HIN HFR k1 k2 kg b0 b1 b2 b3 b4 b5
  go_wp2_with fail
  refine (heap_told i p (insT T t) HH4.out HHP.out (by rw [List.getElem?_set_self hil]) (by simp; omega) (by omega)).mono ?_
  rintro e w5 ⟨rfl, ho5, hh5⟩
  rw [set_rooms H i _ hil] at hh5
  have HH5 := Lib.hid hh5
  have H5 := Lib.hid (H4.out.on ho5 (fun k _ e => by subst e; exact HH.out.foot.2.1.1) (fun k h1 h2 e => by have := HH.out.room.lt; omega))
  clear ho5 hh5 HH4 H4
  obtain ⟨t0, t1, tf⟩ := H5.out.cells
  go_wp2_with fail
  exact bodyPost_ret (results_cell_tmp Try.results43 _ _ (w.heap.size + 1) _ _ (0, 0) _ (by rfl) (two_set H5.out.tid _ _) Try.underlying51 rfl info_tid) (by rfl) ⟨rfl, H5.out.end_ _ _, _, _, _, (HH5.out.kept (two_only _ _ _ _) (fun k hk e => by have := hk.2; omega)).mono (fun _ x => x.1)⟩

set_option maxHeartbeats 1000000 in
set_option maxRecDepth 100000 in
theorem heap_insert_full (hb pb : Nat) (F : Nat → Prop) (H : List (List (Option Tup))) (t : Tup) (A : Option Addr) (cap : Nat) (S : Nat → Prop) (w : World) (h : HeapIs w hb pb F H) (hpo : PoolAt w pb 0) (ht : t.rightB = true) (hf : findH H t.data.length = none)
    (hby : ∀ x ∈ t.data, x < 256) (hd : Rd w S 1 A t.data.length (bytesV t.data)) :
    Calls Try.prog 43 #[.pointer (some ⟨hb, 0, none⟩), tupV t A cap] w fun e w' => e = .returned (.tuple #[.agg #[.int .i64 0, .int .i64 0], .int .i64 12]) ∧ Quiet w w' := by
  have HI := Lib.hid (own_page t A cap S hby hd)
  have H0 := Lib.hid (InsW.start w t A cap)
  simp only [ht, Bool.false_eq_true, if_false, if_true] at HI
  have h256 := h.most
  obtain ⟨v, ps, rb, h⟩ := h.lim
  have hfr := find_rooms H t.data.length
  rw [hf] at hfr
  obtain ⟨B, c, hv, hc, hm, hr⟩ := h.rowForm
  have hall := h.cells
  rw [hv] at hall
  obtain ⟨c0, c1, c2⟩ := hall
  have hl1 := lt_of_get h.box
  have HH := Lib.hid h
  have HFR := Lib.hid hfr
  have HV := Lib.hid hv
  have HPO := Lib.hid hpo
  unfold maxLen at hm
  unfold tupV at HI ⊢
  clear ht hf h hfr hr hv
  clear hby hd hpo
  go_enter Try.func43, Try.ntmps43
  go_wp2_with fail
  go_region_held3 (fun w' => w'.cell? ⟨w.heap.size, 0, none⟩ = some (.int .u64 t.row) ∧ w'.cell? ⟨w.heap.size, 1, none⟩ = some (.int .u64 t.xmin) ∧ w'.cell? ⟨w.heap.size, 2, none⟩ = some (.int .u64 t.xmax) ∧ w'.cell? ⟨w.heap.size, 3, none⟩ = some (.int .i64 t.pg) ∧ w'.cell? ⟨w.heap.size, 4, none⟩ = some (.int .i64 t.sl) ∧ w'.cell? ⟨w.heap.size, 5, none⟩ = some (.slice A t.data.length cap))
    (first | go_keep | exact box_cells H2.out.box | exact box_cells H1.out.box | fail)
    (first
      | (go_at_call 29; go_must (refine (pageT_new _).mono ?_; rintro e w1 ⟨rfl, hq1, hs1, hp1⟩; have H1 := Lib.hid (H0.out.drew.quietly hq1); have HQ1 := Lib.hid hq1; simp only [World.size_drew, World.size_alloc] at hp1; have HP1 := Lib.hid hp1; clear hq1 hp1 hs1))
      | (go_at_call 30; go_must (refine (HI.out _ _ _ H0.out HQ1.out HP1.out (by omega)).mono ?_; rintro e w2 ⟨rfl, h2⟩; have H2 := Lib.hid h2; clear h2))
      | fail)
  clear HI H0 HQ1 HP1 H1
  have HH2 := Lib.hid (HH.out.kept H2.out.only (fun _ _ x => x))
  have HPO2 := Lib.hid (HPO.out.kept H2.out.only (fun x => x))
  obtain ⟨b0, b1, b2, b3, b4, b5⟩ := box_cells H2.out.box
  have k0 := H2.out.only.cell c0 (fun x => x)
  have k1 := H2.out.only.cell c1 (fun x => x)
  have k2 := H2.out.only.cell c2 (fun x => x)
  clear c0 c1 c2
  go_wp2_with fail
  go_quiet ((go_at_call 22; exact quiet_left (room_find rb _ _ _ (HH2.out.room.drewN _))))
  rw [HFR.out]
  go_wp2_with fail
  refine (pool_left pb 0 _ (by exact HPO2.out)).mono ?_
  rintro e w3 ⟨rfl, rfl⟩
  obtain ⟨t0, t1, tf⟩ := H2.out.cells
  go_wp2_with fail
  exact bodyPost_ret (results_cell_tmp Try.results43 _ _ (w.heap.size + 1) _ _ (0, 0) _ (by rfl) (two_set (H2.out.drewN _).tid _ _) Try.underlying51 rfl info_tid) (by rfl) ⟨rfl, (H2.out.drewN _).end_ _ _⟩

set_option maxHeartbeats 1000000 in
set_option maxRecDepth 100000 in
theorem heap_insert_grow (hb pb left : Nat) (F : Nat → Prop) (H : List (List (Option Tup))) (t : Tup) (A : Option Addr) (cap : Nat) (S : Nat → Prop) (w : World) (h : HeapIs w hb pb F H) (hpo : PoolAt w pb (left + 1)) (ht : t.rightB = true) (hf : findH H t.data.length = none) (hle : H.length + (left + 1) ≤ 256)
    (hby : ∀ x ∈ t.data, x < 256) (hd : Rd w S 1 A t.data.length (bytesV t.data)) (hS : ∀ k, S k → ¬ F k ∧ k ≠ pb) :
    Calls Try.prog 43 #[.pointer (some ⟨hb, 0, none⟩), tupV t A cap] w fun e w' => e = .returned (.tuple #[.agg #[.int .i64 (H.length : Int), .int .i64 0], .int .i64 0]) ∧ Only (fun k => F k ∨ k = pb) w w' ∧ PoolAt w' pb left ∧ HeapIs w' hb pb (fun k => F k ∨ w.heap.size ≤ k) (H ++ [[some t]]) := by
  have HI := Lib.hid (own_page t A cap S hby hd)
  have H0 := Lib.hid (InsW.start w t A cap)
  simp only [ht, Bool.false_eq_true, if_false, if_true] at HI
  have h256 := h.most
  obtain ⟨v, ps, rb, h⟩ := h
  replace h := h.lim2 hpo
  have hfr := find_rooms H t.data.length
  rw [hf] at hfr
  obtain ⟨B, c, hv, hc, hm, hr⟩ := h.rowForm
  have hall := h.cells
  rw [hv] at hall
  obtain ⟨c0, c1, c2⟩ := hall
  have hl1 := lt_of_get h.box
  have HH := Lib.hid h
  have HFR := Lib.hid hfr
  have HV := Lib.hid hv
  have HPO := Lib.hid hpo
  have HT := Lib.hid ht
  unfold maxLen at hm
  unfold tupV at HI ⊢
  clear ht hf h hfr hr hv
  have hne : ¬ hb = pb := fun e => (HH.out.pool hpo).1 e.symm
  have hne' : ¬ pb = hb := fun e => hne e.symm
  have hl0 : ¬ ((left : Int) + 1 = 0) := by omega
  have HD := Lib.hid hd
  have HBY := Lib.hid hby
  have HS := Lib.hid hS
  clear hby hd hpo hS
  go_enter Try.func43, Try.ntmps43
  go_wp2_with fail
  go_region_held3 (fun w' => w'.cell? ⟨w.heap.size, 0, none⟩ = some (.int .u64 t.row) ∧ w'.cell? ⟨w.heap.size, 1, none⟩ = some (.int .u64 t.xmin) ∧ w'.cell? ⟨w.heap.size, 2, none⟩ = some (.int .u64 t.xmax) ∧ w'.cell? ⟨w.heap.size, 3, none⟩ = some (.int .i64 t.pg) ∧ w'.cell? ⟨w.heap.size, 4, none⟩ = some (.int .i64 t.sl) ∧ w'.cell? ⟨w.heap.size, 5, none⟩ = some (.slice A t.data.length cap))
    (first | go_keep | exact box_cells H2.out.box | exact box_cells H1.out.box | fail)
    (first
      | (go_at_call 29; go_must (refine (pageT_new _).mono ?_; rintro e w1 ⟨rfl, hq1, hs1, hp1⟩; have H1 := Lib.hid (H0.out.drew.quietly hq1); have HQ1 := Lib.hid hq1; simp only [World.size_drew, World.size_alloc] at hp1; have HP1 := Lib.hid hp1; clear hq1 hp1 hs1))
      | (go_at_call 30; go_must (refine (HI.out _ _ _ H0.out HQ1.out HP1.out (by omega)).mono ?_; rintro e w2 ⟨rfl, h2⟩; have H2 := Lib.hid h2; clear h2))
      | fail)
  clear HI H0 HQ1 HP1 H1
  have HH2 := Lib.hid (HH.out.kept H2.out.only (fun _ _ x => x))
  have HPO2 := Lib.hid (HPO.out.kept H2.out.only (fun x => x))
  obtain ⟨b0, b1, b2, b3, b4, b5⟩ := box_cells H2.out.box
  have k0 := H2.out.only.cell c0 (fun x => x)
  have k1 := H2.out.only.cell c1 (fun x => x)
  have k2 := H2.out.only.cell c2 (fun x => x)
  clear c0 c1 c2
  go_wp2_with fail
  go_quiet ((go_at_call 22; exact quiet_left (room_find rb _ _ _ (HH2.out.room.drewN _))))
  rw [HFR.out]
  go_wp2_with fail
  refine (pool_left pb _ _ (by exact HPO2.out)).mono ?_
  rintro e w3 ⟨rfl, rfl⟩
  have hpc := HPO2.out.cell
  have hpf := frozen_of HPO2.out 0
  go_upto_region 12 with fail
  have HO3 : Hid (Only (· = pb) w2 ((w2.drewN nq).setCell ⟨pb, 0, none⟩ (.int .i64 (left : Int)))) := ((Only.refl (· = pb) w2).drewN nq).setCell (p := ⟨pb, 0, none⟩) (fun _ => rfl) _
  have HH3 := Lib.hid (HH2.out.kept HO3.out (fun k hk e => hk.2.2 e))
  have H3 := Lib.hid ((H2.out.mono (G' := fun k => k = pb) (fun _ x => x.elim)).on HO3.out (fun _ _ e => e) (fun k h1 h2 e => by have := HPO.out.lt; omega))
  have HPO3 : Hid (PoolAt ((w2.drewN nq).setCell ⟨pb, 0, none⟩ (.int .i64 (left : Int))) pb left) := PoolAt.set (w := w2.drewN nq) HPO2.out rfl
  clear HPO2 HH2 H2 HO3 HFR b0 b1 b2 b3 b4 b5 k0 k1 k2 hpc hpf
  generalize (w2.drewN nq).setCell ⟨pb, 0, none⟩ (.int .i64 (left : Int)) = w3 at HH3 H3 HPO3 ⊢
  have k1 : w3.cell? ⟨hb, 1, none⟩ = some (.slice B H.length c) := by rw [← HV.out]; exact HH3.out.cells.2.1
  go_cut [] (fun wx => ∃ q v', w3.heap.size ≤ q ∧ HeapAt wx hb pb (fun k => (F k ∧ k < w.heap.size ∧ k ≠ pb) ∨ w3.heap.size ≤ k) (H ++ [[]]) (H.map roomT) v' (ps ++ [q]) rb ∧ Only (fun k => F k ∧ k < w.heap.size ∧ k ≠ pb) w3 wx)
  case first =>
    have HROW : Hid (w3.ownsRow 0 55 1 (.slice B H.length c) H.length (ps.map ptrV)) := by rw [← HV.out]; exact HH3.out.row
    have HNB : Hid (∀ k, (Value.slice B H.length c).ownBlock = some k → k ≠ hb) := by rw [← HV.out]; exact HH3.out.apart.vh
    go_region_law (first
      | (go_simp; go_at_call 29; refine (pageT_new _).mono ?_; rintro e w4 ⟨rfl, hq4, hs4, hp4⟩; have k4 : w4.cell? ⟨hb, 1, none⟩ = some (.slice B H.length c) := hq4.cell (by exact k1) (fun x => x); have hl4 : hb < w4.heap.size := cell_lt k4; have hn4 : ¬ hb = w4.heap.size := by omega)
      | (refine app_step elem_page rfl (.tmp 63) (.tmp 65) rfl rfl (owns_kept (owns_kept (by exact HROW.out) hq4 (fun _ _ x => x)) ((Only.refl (fun _ => False) w4).alloc _) (fun _ _ x => x)) rfl (Rd.one w4 (ptrV w3.heap.size) 55 (0, 0) (S := fun _ => True) trivial) (one_ptr [w3.heap.size]) (by unfold maxLen; omega) (by omega) ?_; intro v5 w5 hg5; have hb5 := hg5.only.get (alloc_old (hq4.get (by exact HH3.out.box) (fun x => x)) _) (fun e => HNB.out hb e rfl); obtain ⟨A5, c5, hv5, _, _, _⟩ := own_form hg5.own; subst hv5; have s1 := cell_of hb5 1; have s2 := fun o => frozen_of hb5 o; simp only [List.getElem?_toArray, List.getElem?_cons_succ, List.getElem?_cons_zero] at s1)
      | fail)
    all_goals
      go_wp2_with fail
      go_meet
      have hq : Quiet w3 w4 := ((Only.refl _ _).drew).trans hq4
      have hgr := HH3.out.grow hq hp4 (Nat.le_refl _) (by rw [HV.out]; exact hg5)
      exact ⟨_, _, Nat.le_refl _, hgr.1, hgr.2⟩
  case rest =>
    obtain ⟨q, v', hq3, hh4, ho4⟩ := hcut
    have hpl : ps.length = H.length := HH.out.plen
    have hw3 := H3.out.lt
    have HHP : Hid ((ps ++ [q])[H.length]? = some q) := by show (ps ++ [q])[H.length]? = some q; rw [← hpl]; simp
    have H4 : Hid (InsW (fun k => F k ∨ k = pb) w wc t A cap) := (H3.out.mono (fun _ x => Or.inr x)).on ho4 (fun _ _ x => Or.inl x.1) (fun k h1 h2 x => by have := x.2.1; omega)
    have HPO4 : Hid (PoolAt wc pb left) := HPO3.out.kept ho4 (fun x => x.2.2 rfl)
    have HD4 : Hid (Rd wc S 1 A t.data.length (bytesV t.data)) := HD.out.kept H4.out.only (fun k hk x => by rcases x with x | x; exact (HS.out k hk).1 x; exact (HS.out k hk).2 x)
    obtain ⟨B4, c4, hv4, hc4, hm4, hr4⟩ := hh4.rowForm
    obtain ⟨g, rfl, hg⟩ := hr4 H.length q HHP.out
    obtain ⟨T', hT', hpt⟩ := hh4.page HHP.out
    have hT0 : T' = [] := by simp at hT'; exact hT'
    subst hT0
    have hk1 := hh4.cells.2.1
    rw [hv4] at hk1
    obtain ⟨b0, b1, b2, b3, b4, b5⟩ := box_cells H4.out.box
    have HIN := Lib.hid (fun n => pageT_insert q [] t A cap S (wc.drewN n) (by exact hpt) HBY.out (HD4.out.kept ((Only.refl (fun _ => False) wc).drewN n) (fun _ _ x => x)))
    rw [ins_new t HT.out] at HIN
    unfold tupV at HIN
    rw [List.length_append, List.length_singleton] at hv4 hk1 hc4
    have HH4 := Lib.hid hh4
    have HV4 := Lib.hid hv4
    have HNE : Hid ((¬ hb = q) ∧ (¬ g = q) ∧ (¬ w.heap.size = q) ∧ (¬ w.heap.size + 1 = q) ∧ ¬ pb = q) := by
      have ha := hh4.apart
      have hm : q ∈ ps ++ [q] := by simp
      obtain ⟨d, hd⟩ := hh4.pblk hm
      refine ⟨fun e => ha.ph q hm e.symm, fun e => ha.vp g (by rw [hv4]; rfl) q hm e, ne_type H4.out.box hd (by decide), ne_type H4.out.tid hd (by decide), ne_type HPO4.out hd (by decide)⟩
    have d0 : decide ((H.length : Int) < 0) = false := by simp
    have d1 : decide ((H.length : Int) + 1 ≤ H.length) = false := decide_eq_false (by omega)
    have d2 : ¬ (H.length : Int) + 1 ≤ H.length := by omega
    have d3 : (H.length : Int) < H.length + 1 := by omega
    unfold maxLen at hm4
    clear hh4 ho4 hr4 hT' hpt hv4 HD4 HD HS HBY H3 HH3 HPO3 k1
    go_wp2_with fail
    go_region_held3 (fun w' => w'.cell? ⟨hb, 1, none⟩ = some (.slice (some ⟨g, 0, none⟩) (H.length + 1) c4) ∧ w'.cell? ⟨g, H.length, none⟩ = some (ptrV q) ∧ w'.cell? ⟨w.heap.size, 0, none⟩ = some (.int .u64 t.row) ∧ w'.cell? ⟨w.heap.size, 1, none⟩ = some (.int .u64 t.xmin) ∧ w'.cell? ⟨w.heap.size, 2, none⟩ = some (.int .u64 t.xmax) ∧ w'.cell? ⟨w.heap.size, 3, none⟩ = some (.int .i64 t.pg) ∧ w'.cell? ⟨w.heap.size, 4, none⟩ = some (.int .i64 t.sl) ∧ w'.cell? ⟨w.heap.size, 5, none⟩ = some (.slice A t.data.length cap))
      (first | go_keep | exact ⟨ho5.cell (by exact hk1) HNE.out.1, ho5.cell (by exact hg) HNE.out.2.1, box_cells (ho5.get (by exact H4.out.box) HNE.out.2.2.1)⟩ | fail)
      (first
        | (go_at_call 30; go_must (refine (HIN.out 1).mono ?_; rintro e w5 ⟨rfl, ho5, hp5⟩))
        | fail)
    have hh5 := (HH4.out.drewN 1).turn HHP.out ho5 hp5
    rw [show (H ++ [([] : List (Option Tup))]).set H.length [some t] = H ++ [[some t]] by simp] at hh5
    have HH5 := Lib.hid hh5
    have hw4 : w.heap.size ≤ wc.heap.size := H4.out.only.size
    have hql : w.heap.size ≤ q := by omega
    have H5 := Lib.hid ((H4.out.drewN 1).on ho5 (fun k h1 e => by omega) (fun k h1 h2 e => by have := HNE.out; omega))
    have HPO5 : Hid (PoolAt w5 pb left) := PoolAt.kept (w := wc.drewN 1) HPO4.out ho5 HNE.out.2.2.2.2
    clear ho5 hp5 hh5 HH4 H4 HIN HPO4 hk1 hg b0 b1 b2 b3 b4 b5
    go_wp2_with fail
    refine (heap_told H.length q [some t] HH5.out HHP.out (by simp) (by simp) (by omega)).mono ?_
    rintro e w6 ⟨rfl, ho6, hh6⟩
    rw [show setL (H.map roomT) H.length (roomT [some t]) = (H ++ [[some t]]).map roomT by unfold setL; rw [if_pos (by simp)]; simp] at hh6
    have HH6 := Lib.hid hh6
    have hrl := HH.out.room.lt
    have H6 := Lib.hid (H5.out.on ho6 (fun k _ e => by subst e; exact Or.inl HH.out.foot.2.1.1) (fun k h1 h2 e => by omega))
    have HPO6 : Hid (PoolAt w6 pb left) := HPO5.out.kept ho6 (fun e => (HH.out.pool HPO.out).2.1 e)
    clear ho6 hh6 HH5 H5 HPO5
    obtain ⟨t0, t1, tf⟩ := H6.out.cells
    go_wp2_with fail
    exact bodyPost_ret (results_cell_tmp Try.results43 _ _ (w.heap.size + 1) _ _ (0, 0) _ (by rfl) (two_set H6.out.tid _ _) Try.underlying51 rfl info_tid) (by rfl) ⟨rfl, H6.out.end_ _ _, HPO6.out.kept (two_only _ _ _ _) (by have := HPO.out.lt; omega), _, _, _, (HH6.out.kept (two_only _ _ _ _) (fun k hk e => by rcases hk with x | x; have := x.2.1; omega; omega)).mono (fun k x => by rcases x with x | x; exact Or.inl x.1; exact Or.inr (by omega))⟩

end Go.Proofs.Ytbibmgcklilpmaa
