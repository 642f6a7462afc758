/- The document's heap: Insert. No condition. -/
import Derived.Test.YtbibmgcklilpmaaRefHeap2
namespace Go.Lap

theorem findH_at {H : List (List (Option Tup))} {n k : Nat} {T : List (Option Tup)} (hT : H[k]? = some T) (hr : (n : Int) ≤ roomT T) (hb : ∀ (j : Nat) (U : List (Option Tup)), j < k → H[j]? = some U → roomT U < n) : findH H n = some k := by
  have hk := (List.getElem?_eq_some_iff.1 hT).1
  unfold findH
  rw [List.findIdx?_eq_some_iff_getElem]
  refine ⟨hk, ?_, fun j hj => ?_⟩
  · rw [List.getElem?_eq_getElem hk] at hT
    injection hT with hT
    rw [hT]
    exact decide_eq_true hr
  · have := hb j H[j] hj (List.getElem?_eq_getElem (by omega))
    simp
    omega

theorem findH_no {H : List (List (Option Tup))} {n : Nat} (hb : ∀ (j : Nat) (U : List (Option Tup)), j < H.length → H[j]? = some U → roomT U < n) : findH H n = none := by
  unfold findH
  rw [List.findIdx?_eq_none_iff]
  intro U hU
  obtain ⟨j, hj⟩ := List.mem_iff_getElem?.1 hU
  have := hb j U (List.getElem?_eq_some_iff.1 hj).1 hj
  simp
  omega

end Go.Lap
namespace Go.Proofs.Ytbibmgcklilpmaa
open Go.RowKit Go.Lap

theorem rwrapI {x : Int} (h : -9223372036854775808 ≤ x ∧ x < 9223372036854775808) : IntKind.i64.wrap x = x := by
  rw [IntKind.wrap_i64]
  omega

theorem elem_rpage : Elem Try.prog 95 111 1 8 := Elem.mk' (.pointer none) Try.underlying95 (by kernel_rfl) rfl (by decide)

section
variable {w w' : World} {b : Nat} {S : Nat → Prop} {T : List (Option Tup)}

theorem rpT_room (h : RpT w b S T) : Calls Try.prog 67 #[.pointer (some ⟨b, 0, none⟩)] w fun e w' => e = .returned (.int .i64 (roomT T)) ∧ Quiet w w' := by
  obtain ⟨L, st, hL, rfl⟩ := h
  rw [room_tups]
  exact rp_room hL

theorem rpT_new (w : World) : Calls Try.prog 70 #[] w fun e w' => e = .returned (.pointer (some ⟨w.heap.size, 0, none⟩)) ∧ Quiet w w' ∧ RpT w' w.heap.size (fun k => w.heap.size ≤ k) [] :=
  (rp_new w).mono fun e w' ⟨a, b, c⟩ => ⟨a, b, [], 512, c, rfl⟩

theorem rpT_insert (t : Tup) (A : Option Addr) (cap : Nat) (Sd : Nat → Prop) (h : RpT w b S T) (ht : t.Ok) (hd : Rd w Sd 1 A t.data.length (bytesV t.data)) (hroom : (t.data.length : Int) ≤ roomT T) :
    Calls Try.prog 91 #[.pointer (some ⟨b, 0, none⟩), tupV t A cap] w fun e w' => e = .returned (.tuple #[.int .i64 (freeT T : Int), .int .i64 0]) ∧ Only S w w' ∧ RpT w' b (fun k => S k ∨ w.heap.size ≤ k) (insT T t) := by
  obtain ⟨L, st, hL, rfl⟩ := h
  rw [room_tups] at hroom
  rw [free_tups]
  exact (rp_insert_ok t A cap Sd hL ht hd (by omega)).mono fun e w' ⟨a, b, c⟩ => ⟨a, b, _, _, c, insTo_tups L st t⟩
end

section
variable {w w' : World} {xb qb : Nat} {F : Nat → Prop} {o : Nat → Nat} {H : List (List (Option Tup))} {v : Value} {ps : List Nat}

/-- One more page. -/
theorem RHeapAt.grow {w1 w2 : World} {v' : Value} {q : Nat} (h : RHeapAt w xb qb F o H v ps) (hF : ∀ k, F k → k < w.heap.size) (hq : Quiet w w1) (hp : RpT w1 q (fun k => w.heap.size ≤ k) [])
    (hg : Grew (w1.alloc (.cells #[ptrV q] 111)) w2 111 1 v v' (H.length + 1) (ps.map ptrV ++ [ptrV q])) :
    RHeapAt (w2.setCell ⟨xb, 1, none⟩ v') xb qb (fun k => F k ∨ w.heap.size ≤ k) (fun k => if k < w.heap.size then o k else if k < w1.heap.size then H.length + 1 else 0) (H ++ [[]]) v' (ps ++ [q]) ∧ Only (fun k => F k) w (w2.setCell ⟨xb, 1, none⟩ v') := by
  have hl := lt_of_get h.box
  have hqa : Quiet w (w1.alloc (.cells #[ptrV q] 111)) := hq.alloc _
  have hsz := hq.size
  have hf := h.foot
  have vx : ∀ k, v.ownBlock = some k → k ≠ xb := fun k e => by obtain ⟨y, hy⟩ := own_blk h.row e; exact ne_type hy h.box (by decide)
  have hnew : ∀ k, v'.ownBlock = some k → (v.ownBlock = some k ∨ w1.heap.size ≤ k) := by
    intro k e
    rcases hg.loc with x | x
    · rw [x] at e; exact Or.inl e
    · rw [x] at e
      injection e with e
      simp at e
      exact Or.inr (by omega)
  have box2 := hg.only.get (hqa.get h.box (fun x => x)) (fun e => vx xb e rfl)
  have ho3 : Only (· = xb) w2 (w2.setCell ⟨xb, 1, none⟩ v') := (Only.refl (· = xb) w2).setCell (p := ⟨xb, 1, none⟩) (fun _ => rfl) v'
  refine ⟨⟨?_, ?_, fun i T hi => ?_, ⟨Or.inl hf.1.1, by rw [if_pos hl]; exact hf.1.2⟩, fun k e => ?_⟩, ?_⟩
  · rw [set_same box2]; rfl
  · rw [List.length_append, List.map_append]
    exact owns_kept hg.own ho3 (fun k e x => by rcases hnew k e with y | y; exact vx k y x; omega)
  · have hpl := h.plen
    rcases snoc_get hi with ⟨_, h1⟩ | ⟨h1, h2⟩
    · obtain ⟨p, h3, h4⟩ := h.pg i T h1
      refine ⟨p, snoc_old h3, ((RpT.kept (U := fun k => v.ownBlock = some k) (h4.kept hqa (fun _ _ x => x)) hg.only (fun k x e => by have := (hf.2 k e).2; have := x.2; omega)).kept ho3 (fun k x e => by subst e; have := hf.1.2; have := x.2; omega)).mono (fun k x => ⟨Or.inl x.1, by rw [if_pos (hF k x.1)]; exact x.2⟩)⟩
    · subst h2
      refine ⟨q, by rw [h1, ← hpl]; simp, ?_⟩
      refine ((RpT.kept (U := fun k => v.ownBlock = some k) (hp.limS.kept ((Only.refl (fun _ => False) w1).alloc _) (fun _ _ x => x)) hg.only (fun k x e => by have := hF k (hf.2 k e).1; have := x.1; omega)).kept ho3 (fun k x e => by have := x.1; omega)).mono (fun k x => ⟨Or.inr x.1, ?_⟩)
      have h5 := x.1
      have h6 := x.2
      rw [if_neg (by omega), if_pos h6, h1]
  · rcases hnew k e with y | y
    · exact ⟨Or.inl (hf.2 k y).1, by rw [if_pos (hF k (hf.2 k y).1)]; exact (hf.2 k y).2⟩
    · exact ⟨Or.inr (by omega), by rw [if_neg (by omega), if_neg (by omega)]⟩
  · exact (((hqa.mono (T := F) (fun _ _ x => x.elim)).trans' hg.only (fun k hk e => (hf.2 k e).1)).trans' ho3 (fun k hk e => by subst e; exact hf.1.1))

/-- What Insert leaves. -/
def RInsPost (w : World) (xb qb : Nat) (F : Nat → Prop) (H : List (List (Option Tup))) (left : Nat) (t : Tup) (e : Ending) (w' : World) : Prop :=
  e = .returned (.tuple #[.agg #[.int .i64 (hIns H left t).1.1, .int .i64 (hIns H left t).1.2.1], .int .i64 (hIns H left t).1.2.2]) ∧ Only (fun k => F k ∨ k = qb) w w' ∧ RPoolAt w' qb (hIns H left t).2.2 ∧ RHeapIs w' xb qb (fun k => F k ∨ w.heap.size ≤ k) (hIns H left t).2.1

/-- Nothing has turned. -/
theorem RInsPost.same {left : Nat} {t : Tup} {pg sl er : Int} {W : World} (h : RHeapIs w xb qb F H) (hp : RPoolAt w qb left) (hq : Quiet w W) (he : hIns H left t = ((pg, sl, er), H, left)) : RInsPost w xb qb F H left t (.returned (.tuple #[.agg #[.int .i64 pg, .int .i64 sl], .int .i64 er])) W := by
  unfold RInsPost
  rw [he]
  exact ⟨rfl, hq.mono (fun _ _ x => x.elim), hp.kept hq (fun x => x), (h.kept hq (fun _ _ x => x)).mono (fun _ x => Or.inl x)⟩

/-- A page that was there has one more. -/
theorem RInsPost.found {left i p : Nat} {t : Tup} {A : Option Addr} {cap : Nat} {W W' : World} {T : List (Option Tup)} {x y : Value} (h : RHeapAt w xb qb F o H v ps) (hpo : RPoolAt w qb left) (hFq : ¬ F qb) (hr : t.rightB = true) (hf : findH H t.data.length = some i) (hW : InsW (fun _ => False) w W t A cap) (hi : ps[i]? = some p) (hT : H[i]? = some T)
    (ho : Only (fun k => (F k ∧ k < w.heap.size) ∧ o k = i + 1) W W') (hp : RpT W' p (fun k => ((F k ∧ k < w.heap.size) ∧ o k = i + 1) ∨ W.heap.size ≤ k) (insT T t)) :
    RInsPost w xb qb F H left t (.returned (.tuple #[.agg #[.int .i64 (i : Int), .int .i64 (freeT T : Int)], .int .i64 0])) ((W'.setCell ⟨w.heap.size + 1, 0, none⟩ x).setCell ⟨w.heap.size + 1, 1, none⟩ y) := by
  have h1 := h.lim.kept hW.only (fun _ _ x => x)
  obtain ⟨o', h2⟩ := h1.turn hi ho hp
  have hlt := hW.lt
  have hpl := hpo.lt
  unfold RInsPost
  rw [hIns_some hr hf hT]
  refine ⟨rfl, ?_, ?_, o', v, ps, ?_⟩
  · exact ((hW.only.mono (T := fun k => F k ∨ k = qb) (fun _ _ x => x.elim)).trans' ho (fun k _ x => Or.inl x.1.1)).trans' (two_only W' _ x y) (fun k hk e => by omega)
  · exact ((hpo.kept hW.only (fun x => x)).kept ho (fun x => hFq x.1.1)).kept (two_only W' _ x y) (by omega)
  · refine (h2.kept (two_only W' _ x y) (fun k z e => ?_)).mono (fun k z => ?_)
    · rcases z with z | z
      · have := z.2; omega
      · omega
    · rcases z with z | z
      · exact Or.inl z.1
      · exact Or.inr (by omega)
end

set_option maxHeartbeats 400000 in
set_option maxRecDepth 100000 in
theorem rins_nil (t : Tup) (A : Option Addr) (cap : Nat) (w : World) :
    Calls Try.prog 56 #[.pointer none, tupV t A cap] w fun e w' => e = .returned (.tuple #[.agg #[.int .i64 0, .int .i64 0], .int .i64 15]) ∧ Quiet w w' := by
  have H0 := Lib.hid (InsW.start w t A cap)
  obtain ⟨t0, t1, tf⟩ := H0.out.cells
  unfold tupV
  go_enter Try.func56, Try.ntmps56
  go_wp2_with fail
  exact bodyPost_ret (results_cell_tmp Try.results56 _ _ (w.heap.size + 1) _ _ (0, 0) _ (by rfl) H0.out.tid Try.underlying51 rfl info_tid) (by rfl) ⟨rfl, H0.out.only⟩

set_option maxHeartbeats 400000 in
set_option maxRecDepth 100000 in
theorem rins_form (xb : Nat) (t : Tup) (A : Option Addr) (cap : Nat) (w : World) (ht : t.rightB = false) :
    Calls Try.prog 56 #[.pointer (some ⟨xb, 0, none⟩), tupV t A cap] w fun e w' => e = .returned (.tuple #[.agg #[.int .i64 0, .int .i64 0], .int .i64 3]) ∧ Quiet w w' := by
  have H0 := Lib.hid (InsW.start w t A cap)
  obtain ⟨b0, b1, b2, b3, b4, b5⟩ := box_cells H0.out.box
  have HR := Lib.hid (rright_any t A cap)
  rw [ht] at HR
  unfold tupV at HR ⊢
  clear ht
  go_enter Try.func56, Try.ntmps56
  go_wp2_with fail
  refine (HR.out _).mono ?_
  rintro e w1 ⟨rfl, hq1⟩
  have H1 := Lib.hid (H0.out.quietly hq1)
  obtain ⟨t0, t1, tf⟩ := H1.out.cells
  clear hq1 H0 b0 b1 b2 b3 b4 b5
  go_wp2_with fail
  exact bodyPost_ret (results_cell_tmp Try.results56 _ _ (w.heap.size + 1) _ _ (0, 0) _ (by rfl) (two_set H1.out.tid _ _) Try.underlying51 rfl info_tid) (by rfl) ⟨rfl, H1.out.end_ _ _⟩

section
variable {w : World} {xb qb : Nat} {F : Nat → Prop} {H : List (List (Option Tup))}

/-- What is behind the loop over the pages: none has room. -/
def RInsRest (w : World) (xb qb : Nat) (F : Nat → Prop) (H : List (List (Option Tup))) (left : Nat) (t : Tup) (A : Option Addr) (cap : Nat) (W : World) : Prop :=
  InsW (fun _ => False) w W t A cap ∧ findH H t.data.length = none

set_option maxHeartbeats 2000000 in
set_option maxRecDepth 100000 in
theorem rins_right (left : Nat) (t : Tup) (A : Option Addr) (cap : Nat) (Sd : Nat → Prop) (h : RHeapIs w xb qb F H) (hpo : RPoolAt w qb left) (hle : H.length + left ≤ 256) (hFq : ¬ F qb) (ht : t.Ok)
    (hd : Rd w Sd 1 A t.data.length (bytesV t.data)) (hS : ∀ k, Sd k → ¬ F k ∧ k ≠ qb) :
    Calls Try.prog 56 #[.pointer (some ⟨xb, 0, none⟩), tupV t A cap] w (RInsPost w xb qb F H left t) := by
  have H0 := Lib.hid (InsW.start w t A cap)
  obtain ⟨b0, b1, b2, b3, b4, b5⟩ := box_cells H0.out.box
  have HR := Lib.hid (rright_any t A cap)
  rw [ht.right] at HR
  obtain ⟨POST, hPOST⟩ : ∃ POST, RInsPost w xb qb F H left t = POST := ⟨_, rfl⟩
  rw [hPOST]
  have HPOST := Lib.hid hPOST
  have HT := Lib.hid ht
  have hdl : t.data.length ≤ 200 := (of_decide_eq_true ht.right).2.2.2.2
  obtain ⟨o, v, ps, h⟩ := h
  have HH := Lib.hid h.lim
  obtain ⟨B, c, hv, hc, hm, hr⟩ := h.rowForm
  have hxl := lt_of_get h.box
  have HHA := Lib.hid h
  subst hv
  have HRF := Lib.hid hr
  have HPO := Lib.hid hpo
  have HD := Lib.hid hd
  have HS := Lib.hid hS
  have HFQ := Lib.hid hFq
  unfold maxLen at hm
  unfold tupV at HR ⊢
  clear h ht hPOST hr hpo hd hS hFq
  go_enter Try.func56, Try.ntmps56
  go_wp2_with fail
  refine (HR.out _).mono ?_
  rintro e w1 ⟨rfl, hq1⟩
  have H1 := Lib.hid (H0.out.quietly hq1)
  clear hq1 H0 b0 b1 b2 b3 b4 b5 HR
  obtain ⟨x0, x1⟩ := (HH.out.kept H1.out.only (fun _ _ x => x)).cells
  go_wp2_with fail
  go_loopw [24, 6, 7] (fun c _ _ wr => ∃ k : Nat, k ≤ H.length ∧ c = .int .i64 (k : Int) ∧ InsW (fun _ => False) w wr t A cap ∧ ∀ (j : Nat) (U : List (Option Tup)), j < k → H[j]? = some U → roomT U < t.data.length) (fun c _ _ _ => H.length - (intOf c).toNat)
  case atStart => exact ⟨0, Nat.zero_le _, rfl, H1.out, fun j U hj => by omega⟩
  case round =>
    obtain ⟨k, hk, rfl, hw, hbef⟩ := hrel
    have HW := Lib.hid hw
    have HBEF := Lib.hid hbef
    clear hw hbef H1
    by_cases hlt : k < H.length
    · obtain ⟨T, hT⟩ : ∃ T, H[k]? = some T := ⟨_, List.getElem?_eq_getElem hlt⟩
      obtain ⟨p, hp, hpt⟩ := HH.out.pg k T hT
      obtain ⟨g, rfl, hg⟩ := HRF.out k p hp
      have hgk := HW.out.only.cell hg (fun x => x)
      have HPT := Lib.hid (hpt.kept HW.out.only (fun _ _ x => x))
      have HP := Lib.hid hp
      have HTT := Lib.hid hT
      clear hp hpt hg
      obtain ⟨b0, b1, b2, b3, b4, b5⟩ := box_cells HW.out.box
      go_wp2_with fail
      obtain ⟨R, hR⟩ : ∃ R, roomT T = R := ⟨_, rfl⟩
      have HRM : Hid (∀ W : World, Quiet wr W → Calls Try.prog 67 #[.pointer (some ⟨p, 0, none⟩)] W fun e w' => e = .returned (.int .i64 R) ∧ Quiet W w') := fun W hq => by rw [← hR]; exact rpT_room (HPT.out.kept hq (fun _ _ x => x))
      go_region_held3 (fun w' => w'.cell? ⟨w.heap.size, 5, none⟩ = some (.slice A t.data.length cap))
        (first | go_keep | exact hq2.cell (by exact b5) (fun x => x) | fail)
        (first
          | (go_at_call 67; go_must (refine (HRM.out _ ((Only.refl _ _).drew)).mono ?_; rintro e w2 ⟨rfl, hq2⟩))
          | fail)
      have hq2' : Quiet wr w2 := ((Only.refl _ _).drew).trans hq2
      have HW2 := Lib.hid (HW.out.quietly hq2')
      have HPT2 := Lib.hid (HPT.out.kept hq2' (fun _ _ x => x))
      have HRR := Lib.hid hR
      clear hq2 hq2' b0 b1 b2 b3 b4 b5 HPT HRM hgk hR hT
      by_cases hfit : (t.data.length : Int) ≤ R
      · obtain ⟨b0, b1, b2, b3, b4, b5⟩ := box_cells HW2.out.box
        have HD2 := Lib.hid (HD.out.kept HW2.out.only (fun _ _ x => x))
        have HIN := Lib.hid (rpT_insert t A cap Sd HPT2.out HT.out HD2.out (by rw [HRR.out]; exact hfit))
        unfold tupV at HIN
        clear HD2
        go_wp2_with fail
        refine HIN.out.mono ?_
        rintro e w3 ⟨rfl, ho3, hp3⟩
        have hb3 := ho3.get HW2.out.tid (fun x => by have := x.1.2; omega)
        have HTID := Lib.hid hb3
        have s1 := cell_of hb3 0
        have s2 := cell_of hb3 1
        have s3 := fun o => frozen_of hb3 o
        simp only [List.getElem?_toArray, List.getElem?_cons_succ, List.getElem?_cons_zero] at s1 s2
        have HF : Hid (∀ x y, POST (.returned (.tuple #[.agg #[.int .i64 (k : Int), .int .i64 (freeT T : Int)], .int .i64 0])) ((w3.setCell ⟨w.heap.size + 1, 0, none⟩ x).setCell ⟨w.heap.size + 1, 1, none⟩ y)) := fun x y => by
          rw [← HPOST.out]
          exact RInsPost.found HHA.out HPO.out HFQ.out HT.out.right (findH_at HTT.out (by rw [HRR.out]; exact hfit) HBEF.out) HW2.out HP.out HTT.out ho3 hp3
        clear ho3 hp3 hb3 HIN HPT2 HW2 HW b0 b1 b2 b3 b4 b5
        go_wp2_with fail
        exact bodyPost_ret (results_cell_tmp Try.results56 _ _ (w.heap.size + 1) _ _ (0, 0) _ (by rfl) (two_set HTID.out _ _) Try.underlying51 rfl info_tid) (by rfl) (HF.out _ _)
      · have hfit2 : R < t.data.length := by omega
        go_wp2
        go_roundw
        case rel =>
          refine ⟨k + 1, by omega, by go_num, HW2.out, fun j U hj hU => ?_⟩
          rcases Nat.lt_or_ge j k with y | y
          · exact HBEF.out j U y hU
          · obtain rfl : j = k := by omega
            rw [HTT.out] at hU
            injection hU with hU
            rw [← hU, HRR.out]
            exact hfit2
        case measure => simp [intOf]; omega
    · obtain rfl : k = H.length := by omega
      have HNO := Lib.hid (findH_no HBEF.out)
      have hx := (HH.out.kept HW.out.only (fun _ _ x => x)).cells
      obtain ⟨x0, x1⟩ := hx
      have hpW := HPO.out.kept HW.out.only (fun x => x)
      have q0 := hpW.cell
      have qf := frozen_of hpW 0
      obtain ⟨t0, t1, tf⟩ := HW.out.cells
      rcases left with _ | left
      · have HF : Hid (∀ x y, POST (.returned (.tuple #[.agg #[.int .i64 0, .int .i64 0], .int .i64 12])) ((wr.setCell ⟨w.heap.size + 1, 0, none⟩ x).setCell ⟨w.heap.size + 1, 1, none⟩ y)) := fun x y => by
          rw [← HPOST.out]
          refine RInsPost.same ⟨o, _, ps, HHA.out⟩ HPO.out (HW.out.end_ x y) ?_
          unfold hIns
          rw [if_neg (by simp [HT.out.right]), HNO.out]
          rfl
        clear hpW
        go_wp2_with fail
        exact bodyPost_ret (results_cell_tmp Try.results56 _ _ (w.heap.size + 1) _ _ (0, 0) _ (by rfl) (two_set HW.out.tid _ _) Try.underlying51 rfl info_tid) (by rfl) (HF.out _ _)
      · have hl0 : ¬ ((left : Int) + 1 = 0) := by omega
        clear hpW
        go_upto_region 15 with fail
        have HO3 : Hid (Only (· = qb) wr (wr.setCell ⟨qb, 0, none⟩ (.int .i64 (left : Int)))) := (Only.refl (· = qb) wr).setCell (p := ⟨qb, 0, none⟩) (fun _ => rfl) _
        have HH3 := Lib.hid ((HH.out.kept HW.out.only (fun _ _ x => x)).kept HO3.out (fun k hk e => by subst e; exact HFQ.out hk.1))
        have H3 := Lib.hid ((HW.out.mono (G' := fun k => k = qb) (fun _ x => x.elim)).on HO3.out (fun _ _ e => e) (fun k h1 h2 e => by have := HPO.out.lt; omega))
        have HPO3 : Hid (RPoolAt (wr.setCell ⟨qb, 0, none⟩ (.int .i64 (left : Int))) qb left) := RPoolAt.set (w := wr) (HPO.out.kept HW.out.only (fun x => x)) rfl
        clear HW HO3 x0 x1 q0 qf t0 t1 tf
        generalize wr.setCell ⟨qb, 0, none⟩ (.int .i64 (left : Int)) = w3 at HH3 H3 HPO3 ⊢
        have k1 : w3.cell? ⟨xb, 1, none⟩ = some (.slice B H.length c) := HH3.out.cells.2
        go_cut [] (fun wx => ∃ o' q v', RHeapAt wx xb qb (fun k => (F k ∧ k < w.heap.size) ∨ w3.heap.size ≤ k) o' (H ++ [[]]) v' (ps ++ [q]) ∧ Only (fun k => F k ∧ k < w.heap.size) w3 wx)
        case first =>
          have HNB : Hid (∀ k, (Value.slice B H.length c).ownBlock = some k → k ≠ xb) := fun k e => by obtain ⟨y, hy⟩ := own_blk HH3.out.row e; exact ne_type hy HH3.out.box (by decide)
          go_region_law (first
            | (go_simp; go_at_call 70; refine (rpT_new _).mono ?_; rintro e w4 ⟨rfl, hq4, hp4⟩; have k4 : w4.cell? ⟨xb, 1, none⟩ = some (.slice B H.length c) := hq4.cell (by exact k1) (fun x => x); have hl4 : xb < w4.heap.size := cell_lt k4; have hn4 : ¬ xb = w4.heap.size := by omega)
            | (refine app_step elem_rpage rfl (.tmp 76) (.tmp 78) rfl rfl (owns_kept (owns_kept (by exact HH3.out.row) hq4 (fun _ _ x => x)) ((Only.refl (fun _ => False) w4).alloc _) (fun _ _ x => x)) rfl (Rd.one w4 (ptrV w3.heap.size) 111 (0, 0) (S := fun _ => True) trivial) (one_ptr [w3.heap.size]) (by unfold maxLen; omega) (by omega) ?_; intro v5 w5 hg5; have hb5 := hg5.only.get (alloc_old (hq4.get (by exact HH3.out.box) (fun x => x)) _) (fun e => HNB.out xb e rfl); obtain ⟨A5, c5, hv5, _, _, _⟩ := own_form hg5.own; subst hv5; have s1 := cell_of hb5 1; have s2 := fun o => frozen_of hb5 o; simp only [List.getElem?_toArray, List.getElem?_cons_succ, List.getElem?_cons_zero] at s1)
            | fail)
          all_goals
            go_wp2_with fail
            go_meet
            have hq : Quiet w3 w4 := ((Only.refl _ _).drew).trans hq4
            have hgr := HH3.out.grow (fun k x => by have := x.2; have := H3.out.lt; omega) hq hp4 hg5
            exact ⟨_, _, _, hgr.1, hgr.2⟩
        case rest =>
          obtain ⟨o', q, v', hh4, ho4⟩ := hcut
          have hpl : ps.length = H.length := HH.out.plen
          have hw3 := H3.out.lt
          have HHP : Hid ((ps ++ [q])[H.length]? = some q) := by show (ps ++ [q])[H.length]? = some q; rw [← hpl]; simp
          have H4 : Hid (InsW (fun k => F k ∨ k = qb) w wc t A cap) := (H3.out.mono (fun _ x => Or.inr x)).on ho4 (fun _ _ x => Or.inl x.1) (fun k h1 h2 x => by have := x.2; omega)
          have HPO4 : Hid (RPoolAt wc qb left) := HPO3.out.kept ho4 (fun x => HFQ.out x.1)
          have HD4 : Hid (Rd wc Sd 1 A t.data.length (bytesV t.data)) := HD.out.kept H4.out.only (fun k hk x => by rcases x with x | x; exact (HS.out k hk).1 x; exact (HS.out k hk).2 x)
          obtain ⟨B4, c4, hv4, hc4, hm4, hr4⟩ := hh4.rowForm
          obtain ⟨g, hB4, hg⟩ := hr4 H.length q HHP.out
          subst hB4
          obtain ⟨q', hq', hpt⟩ := hh4.pg H.length [] (by simp)
          obtain rfl : q' = q := by rw [HHP.out] at hq'; injection hq' with hq'; exact hq'.symm
          have hk1 := hh4.cells.2
          rw [hv4] at hk1
          obtain ⟨b0, b1, b2, b3, b4, b5⟩ := box_cells H4.out.box
          have HIN : Hid (∀ W, Quiet wc W → _) := fun W hq => rpT_insert t A cap Sd (hpt.kept hq (fun _ _ x => x)) HT.out (HD4.out.kept hq (fun _ _ x => x)) (by have : roomT [] = 474 := (by decide); omega)
          have hfr : (freeT ([] : List (Option Tup)) : Int) = 0 := rfl
          rw [hfr] at HIN
          unfold tupV at HIN
          rw [List.length_append, List.length_singleton] at hv4 hk1 hc4
          have HH4 := Lib.hid hh4
          have HV4 := Lib.hid hv4
          have HNE : Hid (∀ k, ((F k ∧ k < w.heap.size) ∨ w3.heap.size ≤ k) ∧ o' k = H.length + 1 → k ≠ xb ∧ k ≠ g ∧ k ≠ w.heap.size ∧ k ≠ w.heap.size + 1 ∧ k ≠ qb) := by
            intro k x
            have hx := hh4.foot.1.2
            have hg0 := (hh4.foot.2 g (by rw [hv4]; rfl)).2
            refine ⟨fun e => by subst e; omega, fun e => by subst e; omega, fun e => by rcases x.1 with y | y; have := y.2; omega; omega, fun e => by rcases x.1 with y | y; have := y.2; omega; omega, fun e => ?_⟩
            subst e
            rcases x.1 with y | y
            · exact HFQ.out y.1
            · have := HPO.out.lt; omega
          have d0 : decide ((H.length : Int) < 0) = false := by simp
          have d1 : decide ((H.length : Int) + 1 ≤ H.length) = false := decide_eq_false (by omega)
          have d2 : ¬ (H.length : Int) + 1 ≤ H.length := by omega
          have d3 : (H.length : Int) < H.length + 1 := by omega
          have d4 : (0 : Int) ≤ (H.length : Int) := by omega
          have d5 : IntKind.i64.wrap ((H.length : Int) + 1 - 1) = (H.length : Int) := by rw [show (H.length : Int) + 1 - 1 = (H.length : Int) by omega]; exact rwrapI (by omega)
          have d6 : IntKind.i64.wrap (H.length : Int) = (H.length : Int) := rwrapI (by omega)
          unfold maxLen at hm4
          clear hh4 ho4 hr4 hpt hv4 HD4 HD HS H3 HH3 HPO3 k1 hq'
          go_wp2_with fail
          go_region_held3 (fun w' => w'.cell? ⟨xb, 1, none⟩ = some (.slice (some ⟨g, 0, none⟩) (H.length + 1) c4) ∧ w'.cell? ⟨g, H.length, none⟩ = some (ptrV q') ∧ w'.cell? ⟨w.heap.size, 0, none⟩ = some (.int .u64 t.row) ∧ w'.cell? ⟨w.heap.size, 1, none⟩ = some (.int .u64 t.xmin) ∧ w'.cell? ⟨w.heap.size, 2, none⟩ = some (.int .u64 t.xmax) ∧ w'.cell? ⟨w.heap.size, 3, none⟩ = some (.int .i64 t.pg) ∧ w'.cell? ⟨w.heap.size, 4, none⟩ = some (.int .i64 t.sl) ∧ w'.cell? ⟨w.heap.size, 5, none⟩ = some (.slice A t.data.length cap))
            (first | go_keep | exact ⟨ho5.cell (by exact hk1) (fun x => (HNE.out _ x).1 rfl), ho5.cell (by exact hg) (fun x => (HNE.out _ x).2.1 rfl), box_cells (ho5.get (by exact H4.out.box) (fun x => (HNE.out _ x).2.2.1 rfl))⟩ | fail)
            (first
              | (go_at_call 91; go_must (refine (HIN.out _ ((Only.refl _ _).drew)).mono ?_; rintro e w5 ⟨rfl, ho5, hp5⟩))
              | fail)
          obtain ⟨o5, hh5⟩ := (HH4.out.kept ((Only.refl (fun _ => False) wc).drew) (fun _ _ x => x)).turn HHP.out ho5 hp5
          rw [show (H ++ [([] : List (Option Tup))]).set H.length (insT [] t) = H ++ [[some t]] by rw [show insT [] t = [some t] from rfl]; simp] at hh5
          have HH5 := Lib.hid hh5
          have hw4 : w.heap.size + 1 < wc.heap.size := H4.out.lt
          have H5 := Lib.hid (H4.out.drew.on ho5 (fun k h1 x => by rcases x.1 with y | y; exact Or.inl y.1; omega) (fun k h1 h2 x => by have := HNE.out k x; omega))
          have HPO5 : Hid (RPoolAt w5 qb left) := RPoolAt.kept (w := wc.drew) HPO4.out ho5 (fun x => (HNE.out _ x).2.2.2.2 rfl)
          have hk5 := ho5.cell (by exact hk1) (fun x => (HNE.out _ x).1 rfl)
          clear ho5 hp5 hh5 HH4 H4 HIN HPO4 hk1 hg b0 b1 b2 b3 b4 b5
          obtain ⟨t0, t1, tf⟩ := H5.out.cells
          have HF : Hid (∀ x y, POST (.returned (.tuple #[.agg #[.int .i64 (H.length : Int), .int .i64 0], .int .i64 0])) ((w5.setCell ⟨w.heap.size + 1, 0, none⟩ x).setCell ⟨w.heap.size + 1, 1, none⟩ y)) := fun x y => by
            rw [← HPOST.out]
            unfold RInsPost
            rw [hIns_none HT.out.right HNO.out]
            refine ⟨rfl, H5.out.end_ x y, HPO5.out.kept (two_only _ _ _ _) (by have := HPO.out.lt; omega), o5, v', ps ++ [q'], (HH5.out.kept (two_only _ _ _ _) (fun k z e => ?_)).mono (fun k z => ?_)⟩
            · rcases z with z | z
              · rcases z with z | z
                · have := z.2; omega
                · omega
              · have : wc.heap.size ≤ k := z
                omega
            · rcases z with z | z
              · rcases z with z | z
                · exact Or.inl z.1
                · exact Or.inr (by omega)
              · have : wc.heap.size ≤ k := z
                exact Or.inr (by omega)
          clear HH5 HPO5 HNE HV4 HHP
          go_wp2_with fail
          exact bodyPost_ret (results_cell_tmp Try.results56 _ _ (w.heap.size + 1) _ _ (0, 0) _ (by rfl) (two_set H5.out.tid _ _) Try.underlying51 rfl info_tid) (by rfl) (HF.out _ _)

theorem rins_any (left : Nat) (t : Tup) (A : Option Addr) (cap : Nat) (Sd : Nat → Prop) (h : RHeapIs w xb qb F H) (hpo : RPoolAt w qb left) (hle : H.length + left ≤ 256) (hFq : ¬ F qb) (hby : ∀ x ∈ t.data, x < 256)
    (hd : Rd w Sd 1 A t.data.length (bytesV t.data)) (hS : ∀ k, Sd k → ¬ F k ∧ k ≠ qb) :
    Calls Try.prog 56 #[.pointer (some ⟨xb, 0, none⟩), tupV t A cap] w (RInsPost w xb qb F H left t) := by
  rcases ht : t.rightB with _ | _
  · refine (rins_form xb t A cap w ht).mono ?_
    rintro e w' ⟨rfl, hq⟩
    refine RInsPost.same h hpo hq ?_
    unfold hIns
    rw [if_pos ht]
  · exact rins_right left t A cap Sd h hpo hle hFq ⟨ht, hby⟩ hd hS
end

end Go.Proofs.Ytbibmgcklilpmaa
