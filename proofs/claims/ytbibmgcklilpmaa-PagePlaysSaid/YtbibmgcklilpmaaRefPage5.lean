/- The document's page: Insert of a version for which there is room. No condition. -/
import Derived.Test.YtbibmgcklilpmaaRefPage4
namespace Go.Proofs.Ytbibmgcklilpmaa
open Go.RowKit Go.Lap

/-- In Insert: the version in its box with data of its own; the page. -/
structure RInsW (w W : World) (b : Nat) (S : Nat → Prop) (L : List Slot) (st : Nat) (t : Tup) (A : Option Addr) (c : Nat) (v : Value) (rows : List (List Value)) : Prop where
  only : Only S w W
  box : W.heap[w.heap.size]? = some (.cells #[.int .u64 t.row, .int .u64 t.xmin, .int .u64 t.xmax, .int .i64 t.pg, .int .i64 t.sl, .slice A t.data.length c] 54 (0, 0))
  page : RefPgAt W b (fun k => S k ∨ w.heap.size ≤ k) L st v rows
  dat : DatAt W (fun k => w.heap.size ≤ k) t (.slice A t.data.length c)

theorem zero_slot (w : World) : Rd (w.alloc (.cells #[.bool false, .int .u64 0, .int .u64 0, .int .u64 0, .int .i64 0, .int .i64 0, .slice none 0 0, .int .i64 0] 161)) (fun _ => True) 8 (some ⟨w.heap.size, 0, none⟩) 1 (slotV none (.slice none 0 0)) := Rd.new w 8 1 (slotV none (.slice none 0 0)) _ _ rfl trivial

theorem one_slot : ∀ u ∈ slotV none (.slice none 0 0), u.oneCell' = true := by
  intro u hu
  simp [slotV] at hu
  rcases hu with rfl | rfl | rfl | rfl | rfl <;> rfl

theorem RInsW.drew {w W : World} {b st : Nat} {S : Nat → Prop} {L : List Slot} {t : Tup} {A : Option Addr} {c : Nat} {v : Value} {rows : List (List Value)} (h : RInsW w W b S L st t A c v rows) : RInsW w W.drew b S L st t A c v rows :=
  ⟨h.only.drew, h.box, h.page.kept ((Only.refl (fun _ => False) W).drew) (fun _ _ x => x), h.dat.keptIf ((Only.refl (fun _ => False) W).drew) (fun _ _ x => x)⟩

theorem RInsW.quietly {w W W' : World} {b st : Nat} {S : Nat → Prop} {L : List Slot} {t : Tup} {A : Option Addr} {c : Nat} {v : Value} {rows : List (List Value)} (h : RInsW w W b S L st t A c v rows) (hq : Quiet W W') : RInsW w W' b S L st t A c v rows :=
  ⟨h.only.trans' hq (fun _ _ x => x.elim), hq.get h.box (fun x => x), h.page.kept hq (fun _ _ x => x), h.dat.keptIf hq (fun _ _ x => x)⟩

/-- Data begin elsewhere. -/
theorem RInsW.stSet {w W : World} {b st st' : Nat} {z : Int} {S : Nat → Prop} {L : List Slot} {t : Tup} {A : Option Addr} {c : Nat} {v : Value} {rows : List (List Value)} (h : RInsW w W b S L st t A c v rows) (hb : b < w.heap.size) (hz : z = (st' : Int)) (hst : st' ≤ 512) : RInsW w (W.setCell ⟨b, 1, none⟩ (.int .i64 z)) b S L st' t A c v rows := by
  have ho : Only (· = b) W (W.setCell ⟨b, 1, none⟩ (.int .i64 z)) := (Only.refl (· = b) W).setCell (p := ⟨b, 1, none⟩) (fun _ => rfl) _
  exact ⟨h.only.trans' ho (fun k hk e => by subst e; rcases h.page.foot.1 with x | x; exact x; omega), ho.get h.box (by omega), h.page.stSet hz hst, h.dat.keptIf ho (fun k e x => by obtain ⟨y, hy⟩ := h.dat.blk e; exact ne_type hy h.page.blk (by decide) x)⟩

/-- A version lies elsewhere. -/
theorem RInsW.fromSet {w W : World} {b st g n cc i f f' : Nat} {z : Int} {S : Nat → Prop} {L : List Slot} {t u : Tup} {A : Option Addr} {c : Nat} {rows : List (List Value)} {d : Value} (h : RInsW w W b S L st t A c (.slice (some ⟨g, 0, none⟩) n cc) rows) (hn : n = L.length) (hi : L[i]? = some (some (f, u))) (hr : rows[i]? = some (slotV (some (f, u)) d)) (hz : z = (f' : Int)) (hf : f' ≤ 512) :
    RInsW w (W.setCell ⟨g, i * 8 + 7, none⟩ (.int .i64 z)) b S (L.set i (some (f', u))) st t A c (.slice (some ⟨g, 0, none⟩) n cc) (rows.set i (slotV (some (f', u)) d)) := by
  subst hz
  have ho : Only (· = g) W (W.setCell ⟨g, i * 8 + 7, none⟩ (.int .i64 (f' : Int))) := (Only.refl (· = g) W).setCell (p := ⟨g, i * 8 + 7, none⟩) (fun _ => rfl) _
  obtain ⟨y, hy⟩ := own_blk h.page.row (k := g) rfl
  have hrow := h.page.row
  rw [← hn] at hrow
  obtain ⟨a7, _, _⟩ := row_cell hrow h.page.len8 hr (j := 7) (by omega) (.int .i64 (f' : Int))
  refine ⟨h.only.trans' ho (fun k hk e => by subst e; rcases h.page.foot.2 k rfl with x | x; exact x; omega), ho.get h.box (ne_type h.box hy (by decide)), h.page.slotSet (List.getElem?_eq_some_iff.1 hi).1 ho (by rw [← hn]; exact a7) (fun f2 t2 e => ?_), h.dat.keptIf ho (fun k e x => by obtain ⟨z, hz⟩ := h.dat.blk e; exact ne_type hz hy (by decide) x)⟩
  injection e with e
  injection e with e1 e2
  subst e1 e2
  obtain ⟨d2, hd2, h3⟩ := h.page.slot i _ hi
  have : d2 = d := by
    rw [hr] at hd2
    injection hd2 with hd2
    simp [slotV] at hd2
    exact hd2.symm
  subst this
  exact ⟨(h3 f _ rfl).1, (h3 f _ rfl).2.1, hf⟩

/-- In the midst of the moving: k slots are done. -/
def mvAt (L : List Slot) (k : Nat) : List Slot × Nat := ((movTo (L.take k)).1 ++ L.drop k, (movTo (L.take k)).2)

theorem mvAt_zero (L : List Slot) : mvAt L 0 = (L, 512) := by simp [mvAt, movTo]
theorem mvAt_end (L : List Slot) : mvAt L L.length = movTo L := by simp [mvAt]

theorem mvAt_get {L : List Slot} {k : Nat} (hk : k < L.length) : (mvAt L k).1[k]? = L[k]? ∧ (mvAt L k).1.length = L.length := by
  have hl : (movTo (L.take k)).1.length = k := by rw [movTo_length, List.length_take]; omega
  unfold mvAt
  refine ⟨?_, by simp [hl]; omega⟩
  rw [List.getElem?_append_right (by omega), hl, Nat.sub_self, List.getElem?_drop, Nat.add_zero]

theorem mvAt_none {L : List Slot} {k : Nat} (h : L[k]? = some none) : mvAt L (k + 1) = mvAt L k := by
  have hk : k < L.length := (List.getElem?_eq_some_iff.1 h).1
  have e : L.take (k + 1) = L.take k ++ [none] := by rw [List.take_add_one, h]; rfl
  unfold mvAt
  rw [e, movTo_snoc, List.drop_eq_getElem_cons hk]
  rw [List.getElem?_eq_getElem hk] at h
  injection h with h
  rw [h]
  simp [movStep]

theorem mvAt_some {L : List Slot} {k f : Nat} {t : Tup} (h : L[k]? = some (some (f, t))) : mvAt L (k + 1) = ((mvAt L k).1.set k (some ((mvAt L k).2 - t.size, t)), (mvAt L k).2 - t.size) := by
  have hk : k < L.length := (List.getElem?_eq_some_iff.1 h).1
  have hl : (movTo (L.take k)).1.length = k := by rw [movTo_length, List.length_take]; omega
  have e : L.take (k + 1) = L.take k ++ [some (f, t)] := by rw [List.take_add_one, h]; rfl
  unfold mvAt
  rw [e, movTo_snoc]
  simp only [movStep]
  rw [List.drop_eq_getElem_cons hk, List.set_append_right _ _ (by omega), hl, Nat.sub_self, List.set_cons_zero]
  simp

/-- One more slot, free. -/
theorem RInsW.push {w W w5 : World} {b st : Nat} {S : Nat → Prop} {L : List Slot} {t : Tup} {A : Option Addr} {c : Nat} {v v' : Value} {rows : List (List Value)} (h : RInsW w W b S L st t A c v rows) (hb : b < w.heap.size) (hl : 4 + 4 * (L.length + 1) ≤ 512)
    (hg : Grew (W.alloc (.cells #[.bool false, .int .u64 0, .int .u64 0, .int .u64 0, .int .i64 0, .int .i64 0, .slice none 0 0, .int .i64 0] 161)) w5 161 8 v v' (L.length + 1) (rows.flatten ++ slotV none (.slice none 0 0))) :
    RInsW w (w5.setCell ⟨b, 0, none⟩ v') b S (L ++ [none]) st t A c v' (rows ++ [slotV none (.slice none 0 0)]) := by
  have hq : Quiet W (W.alloc (.cells #[.bool false, .int .u64 0, .int .u64 0, .int .u64 0, .int .i64 0, .int .i64 0, .slice none 0 0, .int .i64 0] 161)) := (Only.refl _ _).alloc _
  have hp := h.page
  have hws := h.only.size
  have hbW := lt_of_get h.box
  have hSb : S b := by rcases hp.foot.1 with x | x; exact x; omega
  have vb : ∀ k, v.ownBlock = some k → k ≠ b := fun k e => by obtain ⟨y, hy⟩ := own_blk hp.row e; exact ne_type hy hp.blk (by decide)
  have vw : ∀ k, v.ownBlock = some k → k ≠ w.heap.size := fun k e => by obtain ⟨y, hy⟩ := own_blk hp.row e; exact ne_type hy h.box (by decide)
  have dv : ∀ {T : Nat → Prop} {t d}, DatAt W T t d → ∀ k, d.ownBlock = some k → v.ownBlock ≠ some k ∧ k ≠ b := fun hd k e => by
    obtain ⟨z, hz⟩ := hd.blk e
    exact ⟨fun e2 => by obtain ⟨y, hy⟩ := own_blk hp.row e2; exact ne_type hz hy (by decide) rfl, ne_type hz hp.blk (by decide)⟩
  have ob : Only (· = b) w5 (w5.setCell ⟨b, 0, none⟩ v') := (Only.refl (· = b) w5).setCell (p := ⟨b, 0, none⟩) (fun _ => rfl) v'
  have dk : ∀ {T : Nat → Prop} {t d}, DatAt W T t d → DatAt (w5.setCell ⟨b, 0, none⟩ v') T t d := fun hd =>
    ((hd.keptIf hq (fun _ _ x => x)).keptIf hg.only (fun k e => (dv hd k e).1)).keptIf ob (fun k e => (dv hd k e).2)
  have v'b : ∀ k, v'.ownBlock = some k → k ≠ b := fun k e => by
    rcases hg.loc with x | x
    · rw [x] at e; exact vb k e
    · rw [x] at e; injection e with e; simp at e; omega
  refine ⟨((h.only.trans' hq (fun _ _ x => x.elim)).trans' hg.only (fun k hk e => ?_)).trans' ob (fun k _ e => by subst e; exact hSb), ?_, ⟨?_, ?_, ?_, fun i s hi => ?_, ⟨hp.foot.1, fun k e => ?_⟩, ⟨by simpa using hl, hp.lim.2⟩⟩, dk h.dat⟩
  · rcases hp.foot.2 k e with x | x
    · exact x
    · omega
  · exact ob.get (hg.only.get (hq.get h.box (fun x => x)) (fun e => vw _ e rfl)) (by omega)
  · rw [set_same (hg.only.get (hq.get hp.blk (fun x => x)) (fun e => vb _ e rfl))]
    rfl
  · rw [List.length_append, List.flatten_append]
    have : [slotV none (.slice none 0 0)].flatten = slotV none (.slice none 0 0) := by simp
    rw [this]
    exact owns_kept hg.own ob (fun k e x => v'b k e x)
  · simp [hp.len]
  · rcases snoc_get hi with ⟨_, h1⟩ | ⟨h1, h2⟩
    · obtain ⟨d, hd, h3⟩ := hp.slot i s h1
      exact ⟨d, snoc_old hd, fun f t e => ⟨dk (h3 f t e).1, (h3 f t e).2⟩⟩
    · subst h2
      exact ⟨.slice none 0 0, by rw [h1, ← hp.len]; simp, fun f t e => by cases e⟩
  · rcases hg.loc with x | x
    · rw [x] at e; exact hp.foot.2 k e
    · rw [x] at e; injection e with e; simp at e; exact Or.inr (by omega)

theorem movTo_start (L : List Slot) : (movTo L).2 = 512 - sumS L := by
  induction hn : L.length generalizing L with
  | zero =>
    have : L = [] := List.eq_nil_of_length_eq_zero hn
    subst this
    rfl
  | succ n ih =>
    have hne : L ≠ [] := fun e => by subst e; simp at hn
    obtain ⟨M, s, rfl⟩ : ∃ M s, L = M ++ [s] := ⟨L.dropLast, L.getLast hne, (List.dropLast_concat_getLast hne).symm⟩
    have hM : M.length = n := by simpa using hn
    have := ih M hM
    rw [movTo_snoc, sumS_snoc]
    rcases s with _ | ⟨f, t⟩
    · simp only [movStep, Slot.size]; omega
    · simp only [movStep, Slot.size]; omega

/-- The slots once there is one for the version. -/
theorem insSlots (L : List Slot) (fi : Nat) (hfi : fi ≤ L.length) (h : freeIdx L = fi) : (if fi = L.length then L ++ [none] else L).length = insCount L ∧ (if fi = L.length then L ++ [none] else L)[fi]? = some none ∧
    (∀ s, (if fi = L.length then L ++ [none] else L).set fi s = insL L fi s) ∧ (movTo (if fi = L.length then L ++ [none] else L)).2 = (movTo L).2 ∧ (∀ s, (movTo (if fi = L.length then L ++ [none] else L)).1.set fi s = insL (movTo L).1 fi s) ∧ sumS (if fi = L.length then L ++ [none] else L) = sumS L := by
  unfold insCount insL
  rw [h]
  by_cases e : fi = L.length
  · subst e
    simp only [if_true]
    refine ⟨by simp, by simp, fun s => by simp, by rw [movTo_snoc]; rfl, fun s => ?_, by rw [sumS_snoc]; rfl⟩
    rw [movTo_snoc, if_pos (movTo_length L).symm]
    show ((movTo L).1 ++ [none]).set L.length s = _
    rw [← movTo_length L]
    simp
  · simp only [e, if_false]
    refine ⟨by omega, ?_, fun s => trivial, trivial, fun s => ?_, trivial⟩
    · have := freeIdx_free L
      rw [h] at this
      have hlt : fi < L.length := by omega
      rw [List.getElem?_eq_getElem hlt, this _ (List.getElem?_eq_getElem hlt)]
    · rw [if_neg (by rw [movTo_length]; exact e)]

section
variable {w : World} {b st : Nat} {S : Nat → Prop} {L : List Slot}

set_option maxHeartbeats 2000000 in
set_option maxRecDepth 100000 in
theorem rp_insert_ok (t : Tup) (A : Option Addr) (cap : Nat) (Sd : Nat → Prop) (h0 : RefPg w b S L st) (ht : t.Ok) (hd : Rd w Sd 1 A t.data.length (bytesV t.data)) (hroom : ¬ roomOf L < t.data.length) :
    Calls Try.prog 91 #[.pointer (some ⟨b, 0, none⟩), tupV t A cap] w fun e w' => e = .returned (.tuple #[.int .i64 (freeIdx L : Int), .int .i64 0]) ∧ Only S w w' ∧ RefPg w' b (fun k => S k ∨ w.heap.size ≤ k) (insTo L st t).1 (insTo L st t).2 := by
  have HR := Lib.hid (rright_any t A cap)
  rw [ht.right] at HR
  have hdl : t.data.length ≤ 200 := (of_decide_eq_true ht.right).2.2.2.2
  obtain ⟨R, hR⟩ : ∃ R, roomOf L = R := ⟨_, rfl⟩
  have HRM : Hid (∀ W : World, Quiet w W → Calls Try.prog 67 #[.pointer (some ⟨b, 0, none⟩)] W fun e w' => e = .returned (.int .i64 R) ∧ Quiet W w') := fun W hq => by rw [← hR]; exact rp_room (h0.kept hq (fun _ _ x => x))
  have HCP : Hid (∀ W : World, Quiet w W → Calls Try.prog 60 #[.slice A t.data.length cap] W (FreshPost W t.data)) := fun W hq => copy_any A cap t.data Sd W (hd.kept hq (fun _ _ x => x)) (by omega)
  have HFIT := Lib.hid (room_fit hroom)
  rw [hR] at hroom
  have HT := Lib.hid ht
  obtain ⟨v, rows, h⟩ := h0.limS
  have HH := Lib.hid h
  have hlim := h.lim
  have hbl := lt_of_get h.blk
  unfold tupV at HR ⊢
  clear h0 hd hR ht h
  go_enter Try.func91, Try.ntmps91
  go_wp2_with fail
  refine (HR.out _).mono ?_
  rintro e w1 ⟨rfl, hq1⟩
  have HQ : Hid (Quiet w w1) := ((Only.refl _ _).alloc _).trans hq1
  have HB := Lib.hid (hq1.get (alloc_new w _) (fun x => x))
  obtain ⟨c0, c1, c2, c3, c4, c5⟩ := box_cells HB.out
  clear hq1
  go_wp2_with fail
  go_region_held3 (fun w' => w'.cell? ⟨w.heap.size, 5, none⟩ = some (.slice A t.data.length cap))
    (first | go_keep | exact hq2.cell (by exact c5) (fun x => x) | fail)
    (first
      | (go_at_call 67; go_must (refine (HRM.out _ HQ.out.drew).mono ?_; rintro e w2 ⟨rfl, hq2⟩))
      | fail)
  have HQ2 := Lib.hid (HQ.out.drew.trans hq2)
  have HB2 := Lib.hid (hq2.get (by exact HB.out) (fun x => x))
  clear hq2 HQ HB c0 c1 c2 c3 c4 c5 HRM HR
  obtain ⟨c0, c1, c2, c3, c4, c5⟩ := box_cells HB2.out
  go_wp2_with fail
  refine (HCP.out _ HQ2.out).mono ?_
  rintro e w3 ⟨v3, rfl, hf3⟩
  obtain ⟨A3, cap3, rfl, _, _, _⟩ := own_form hf3.own
  have HQ3 := Lib.hid (HQ2.out.trans hf3.quiet)
  have hb3 := hf3.quiet.get HB2.out (fun x => x)
  have HD3 : Hid (DatAt w3 (fun k => w.heap.size < k) t (.slice A3 t.data.length cap3)) := ⟨A3, cap3, rfl, hf3.own, fun k e => by have := hf3.new k e; have := lt_of_get HB2.out; omega⟩
  have HB3 := Lib.hid hb3
  clear hf3 hb3 HB2 c0 c1 c2 c3 c4 c5 HCP
  obtain ⟨c0, c1, c2, c3, c4, c5⟩ := box_cells HB3.out
  have cf := fun o => frozen_of HB3.out o
  go_upto_region 8 with fail
  have HW : Hid (RInsW w (w3.setCell ⟨w.heap.size, 5, none⟩ (.slice A3 t.data.length cap3)) b S L st t A3 cap3 v rows) := by
    have ho : Only (· = w.heap.size) w3 (w3.setCell ⟨w.heap.size, 5, none⟩ (.slice A3 t.data.length cap3)) := (Only.refl (· = w.heap.size) w3).setCell (p := ⟨w.heap.size, 5, none⟩) (fun _ => rfl) _
    refine ⟨(HQ3.out.mono (T := S) (fun _ _ x => x.elim)).trans' ho (fun k hk e => by omega), by rw [set_same HB3.out]; rfl, ?_, ?_⟩
    · exact ((HH.out.kept HQ3.out (fun _ _ x => x)).kept ho (fun k x e => by have := x.2; omega)).mono (fun k x => Or.inl x.1)
    · exact (HD3.out.kept ho (fun k x e => by omega)).mono (fun k x => by omega)
  clear c0 c1 c2 c3 c4 c5 cf HB3 HD3 HQ3 HQ2
  generalize w3.setCell ⟨w.heap.size, 5, none⟩ (.slice A3 t.data.length cap3) = w4 at HW ⊢
  obtain ⟨B, c, rfl, hc, hm, hform⟩ := HW.out.page.form
  obtain ⟨b0, b1, bf⟩ := HW.out.page.cells
  have HF := Lib.hid hform
  unfold maxLen at hm
  clear hform bf
  go_wp2_with fail
  go_loop [6, 7] (fun slot i => ∃ k : Nat, k ≤ L.length ∧ i = .int .i64 ((k : Int) - 1) ∧ slot = .int .i64 (freeFrom L k : Int)) (fun _ i => (intOf i + 1).toNat)
  case atStart => exact ⟨L.length, Nat.le_refl _, rfl, by rw [freeFrom_end]⟩
  case round =>
    obtain ⟨k, hk, rfl, rfl⟩ := hrel
    rcases k with _ | k
    · rw [freeFrom_zero]
      go_upto_if 57 with fail
      have hfle := freeIdx_le L
      obtain ⟨fi, Hfi⟩ : ∃ fi, Hid (freeIdx L = fi) := ⟨_, rfl⟩
      rw [Hfi.out] at hfle ⊢
      go_cut [] (fun wx => ∃ v1 rows1, RInsW w wx b S (if fi = L.length then L ++ [none] else L) st t A3 cap3 v1 rows1)
      case first =>
        by_cases e : fi = L.length
        · subst e
          have hl1 : 4 + 4 * (L.length + 1) ≤ 512 := by have := HFIT.out; unfold insCount at this; rw [Hfi.out] at this; omega
          have hbw4 : b < w4.heap.size := lt_of_get HW.out.page.blk
          go_wp2_with (at_builtin; refine app elem_slot rfl (.tmp 62) (.tmp 64) rfl rfl (owns_kept HW.out.page.row ((Only.refl (fun _ => False) w4).alloc _) (fun _ _ x => x)) rfl (zero_slot w4) one_slot (by unfold maxLen; omega) (by omega) ?_)
          intro v5 w5 hg5
          obtain ⟨A5, c5, rfl, _, _, _⟩ := own_form hg5.own
          have HW5 := Lib.hid (HW.out.push hbl hl1 hg5)
          have s1 : ∃ x, w5.cell? ⟨b, 0, none⟩ = some x := by
            have := hg5.only.get (alloc_old HW.out.page.blk _) (fun e => by obtain ⟨y, hy⟩ := own_blk HW.out.page.row e; exact ne_type hy HW.out.page.blk (by decide) rfl)
            exact ⟨_, by rw [cell_of this]; rfl⟩
          have s2 : ∀ o, w5.frozen? ⟨b, o, none⟩ = false := fun o => by
            have := hg5.only.get (alloc_old HW.out.page.blk _) (fun e => by obtain ⟨y, hy⟩ := own_blk HW.out.page.row e; exact ne_type hy HW.out.page.blk (by decide) rfl)
            exact frozen_of this o
          obtain ⟨x1, s1⟩ := s1
          clear hg5
          go_wp2_with fail
          go_meet
          exact ⟨_, _, by rw [if_pos trivial]; exact HW5.out⟩
        · have e' : ¬ (fi : Int) = L.length := by omega
          have e2 : ((fi : Int) == (L.length : Int)) = false := by simp; omega
          go_wp2_with fail
          go_meet
          exact ⟨_, _, by rw [if_neg e]; exact HW.out⟩
      case rest =>
        obtain ⟨v1, rows1, hw1⟩ := hcut
        have HL1 := Lib.hid (insSlots L fi hfle Hfi.out)
        generalize (if fi = L.length then L ++ [none] else L) = L1 at hw1 HL1
        have hcnt : L1.length = insCount L := HL1.out.1
        have hfit := HFIT.out
        rw [← hcnt] at hfit
        have hfi1 : fi < L1.length := (List.getElem?_eq_some_iff.1 HL1.out.2.1).1
        have HW1 := Lib.hid hw1
        obtain ⟨B1, cc1, rfl, hc1, hm1, hform1⟩ := hw1.page.form
        obtain ⟨p0, p1, pf⟩ := hw1.page.cells
        obtain ⟨q0, q1, q2, q3, q4, q5⟩ := box_cells hw1.box
        have HF1 := Lib.hid hform1
        have hst := hlim.2
        unfold maxLen at hm1
        have HB1 : Hid (¬ w.heap.size = b) := by show ¬ w.heap.size = b; omega
        clear hform1 HF b0 b1 HW hw1 hc hm
        obtain ⟨mv, hmv⟩ : ∃ mv : Bool, decide ((st : Int) - (30 + t.data.length) < 4 + 4 * L1.length) = mv := ⟨_, rfl⟩
        go_wp2_with fail
        go_region
        go_upto_if 85 with fail
        go_cut [] (fun wx => ∃ L2 st2 rows2, RInsW w wx b S L2 st2 t A3 cap3 (.slice B1 L1.length cc1) rows2 ∧ ((mv = false ∧ L2 = L1 ∧ st2 = st) ∨ (mv = true ∧ L2 = (movTo L1).1 ∧ st2 = (movTo L1).2)))
        case first =>
          rcases mv with _ | _
          · have hm1 := of_decide_eq_false hmv
            have hm2 : (4 : Int) + 4 * L1.length ≤ (st : Int) - (30 + t.data.length) := by omega
            go_wp2_with fail
            go_meet
            exact ⟨L1, st, rows1, HW1.out.drew, Or.inl ⟨trivial, rfl, rfl⟩⟩
          · have hm1 := of_decide_eq_true hmv
            have HM0 : Hid (RInsW w (wc.setCell ⟨b, 1, none⟩ (.int .i64 512)).drew b S (mvAt L1 0).1 (mvAt L1 0).2 t A3 cap3 (.slice B1 L1.length cc1) rows1) := by
              rw [mvAt_zero]
              exact (HW1.out.stSet hbl rfl (Nat.le_refl _)).drew
            have HSUM : Hid (sumS L1 ≤ 512) := by
              show sumS L1 ≤ 512
              rw [HL1.out.2.2.2.2.2]
              omega
            obtain ⟨g, d1, hB1, _⟩ := HF1.out fi none HL1.out.2.1
            subst hB1
            have hslot : 4 + 4 * L1.length + sumS L1 ≤ 512 := by
              rw [HL1.out.2.2.2.2.2]
              omega
            clear HF1 q0 q1 q2 q3 q4 q5
            go_wp2_with fail
            generalize (wc.setCell ⟨b, 1, none⟩ (.int .i64 512)).drew = w6 at HM0 ⊢
            clear p0 p1 pf HW1
            go_loopw [94, 9, 10] (fun c _ _ wr => ∃ (k : Nat) (rows' : List (List Value)), k ≤ L1.length ∧ c = .int .i64 (k : Int) ∧ RInsW w wr b S (mvAt L1 k).1 (mvAt L1 k).2 t A3 cap3 (.slice (some ⟨g, 0, none⟩) L1.length cc1) rows') (fun c _ _ _ => L1.length - (intOf c).toNat)
            case atStart => exact ⟨0, rows1, Nat.zero_le _, rfl, HM0.out⟩
            case round =>
              obtain ⟨k, rows', hk, rfl, hwr⟩ := hrel
              have HWR := Lib.hid hwr
              clear hwr HM0
              obtain ⟨p0, p1, pf⟩ := HWR.out.page.cells
              obtain ⟨ak, hak⟩ : ∃ ak, (mvAt L1 k).2 = ak := ⟨_, rfl⟩
              have HAK := Lib.hid hak
              rw [hak] at p1
              clear hak
              by_cases hlt : k < L1.length
              · obtain ⟨s, hs⟩ : ∃ s, L1[k]? = some s := ⟨_, List.getElem?_eq_getElem hlt⟩
                have HS := Lib.hid hs
                have hget := (mvAt_get hlt).1
                have HML := Lib.hid (mvAt_get hlt).2
                rw [hs] at hget
                obtain ⟨A9, c9, hv9, _, _, hform9⟩ := HWR.out.page.form
                obtain ⟨g9, d9, hg9, hrow9, hd9, hcs, hfz⟩ := hform9 k s hget
                have hgg : g9 = g := by
                  injection hv9 with e1 _ _
                  rw [hg9] at e1
                  injection e1 with e1
                  injection e1 with e1
                  exact e1.symm
                subst hgg
                have HGET := Lib.hid hget
                have HROW9 := Lib.hid hrow9
                clear hv9 hg9 hform9 hget hrow9
                rcases s with _ | ⟨f, u⟩
                · obtain ⟨k0, k1, k2, k3, k4, k5, k6, k7⟩ := cells_none hcs
                  clear hcs hs hd9
                  go_wp2
                  go_roundw
                  case rel => exact ⟨k + 1, rows', by omega, by go_num, by rw [mvAt_none HS.out]; exact HWR.out.quietly ((Only.refl _ _).alloc _)⟩
                  case measure => simp [intOf]; omega
                · obtain ⟨A', c', rfl, _⟩ := (hd9 f u rfl).1
                  obtain ⟨k0, k1, k2, k3, k4, k5, k6, k7⟩ := cells_some hcs
                  clear hcs hs hd9
                  have hmat := mov_at HS.out hslot
                  have hak2 : 30 + u.data.length ≤ ak ∧ ak ≤ 512 := by
                    have h1 : (movTo (L1.take k)).2 = ak := HAK.out
                    rw [h1, show u.size = 30 + u.data.length from rfl] at hmat
                    exact ⟨by omega, hmat.2⟩
                  have ngb : ¬ g9 = b := by obtain ⟨y, hy⟩ := own_blk HWR.out.page.row (k := g9) rfl; exact ne_type hy HWR.out.page.blk (by decide)
                  have nbg : ¬ b = g9 := fun e => ngb e.symm
                  have nwb : ¬ wr.heap.size = b := by have := lt_of_get HWR.out.page.blk; omega
                  have nbw : ¬ b = wr.heap.size := fun e => nwb e.symm
                  have nwg : ¬ wr.heap.size = g9 := by obtain ⟨y, hy⟩ := own_blk HWR.out.page.row (k := g9) rfl; have := lt_of_get hy; omega
                  have ngw : ¬ g9 = wr.heap.size := fun e => nwg e.symm
                  clear hmat
                  go_wp2_with fail
                  have HW7 := Lib.hid (HWR.out.quietly ((Only.refl (fun _ => False) wr).alloc (.cells #[.bool true, .int .u64 (u.row : Int), .int .u64 (u.xmin : Int), .int .u64 (u.xmax : Int), .int .i64 u.pg, .int .i64 u.sl, .slice A' u.data.length c', .int .i64 (f : Int)] 161)))
                  have hs7 := alloc_new wr (.cells #[.bool true, .int .u64 (u.row : Int), .int .u64 (u.xmin : Int), .int .u64 (u.xmax : Int), .int .i64 u.pg, .int .i64 u.sl, .slice A' u.data.length c', .int .i64 (f : Int)] 161)
                  have hq7 : Quiet wr (wr.alloc (.cells #[.bool true, .int .u64 (u.row : Int), .int .u64 (u.xmin : Int), .int .u64 (u.xmax : Int), .int .i64 u.pg, .int .i64 u.sl, .slice A' u.data.length c', .int .i64 (f : Int)] 161)) := (Only.refl _ _).alloc _
                  have j7 := hq7.cell k7 (fun x => x)
                  generalize wr.alloc (.cells #[.bool true, .int .u64 (u.row : Int), .int .u64 (u.xmin : Int), .int .u64 (u.xmax : Int), .int .i64 u.pg, .int .i64 u.sl, .slice A' u.data.length c', .int .i64 (f : Int)] 161) = w7 at HW7 hs7 hq7 j7 ⊢
                  generalize hwn : wr.heap.size = wn at hs7 nwb nbw nwg ngw ⊢
                  have s6 : w7.cell? ⟨wn, 6, none⟩ = some (.slice A' u.data.length c') := by rw [cell_of hs7]; rfl
                  clear k0 k1 k2 k3 k4 k5 k6 k7 p0 p1 pf hs7 hq7 hfz
                  obtain ⟨p0, p1, pf⟩ := HW7.out.page.cells
                  rw [HAK.out] at p1
                  have hfz : ∀ o, w7.frozen? ⟨g9, o, none⟩ = false := fun o => by obtain ⟨y, hy⟩ := own_blk HW7.out.page.row (k := g9) rfl; exact frozen_of hy o
                  go_region
                  have hz : (ak : Int) - (30 + u.data.length) = ((ak - (30 + u.data.length) : Nat) : Int) := by omega
                  obtain ⟨bk, hbk⟩ : ∃ bk, ak - (30 + u.data.length) = bk := ⟨_, rfl⟩
                  have HBK := Lib.hid hbk
                  rw [hbk] at hz
                  have hb5 : bk ≤ 512 := by omega
                  have HW8 := Lib.hid (HW7.out.stSet (st' := bk) hbl hz (by omega)).drew
                  rw [hz] at HW8 ⊢
                  have hq8 : Only (· = b) w7 (w7.setCell ⟨b, 1, none⟩ (.int .i64 (bk : Int))).drew := ((Only.refl (· = b) w7).setCell (p := ⟨b, 1, none⟩) (fun _ => rfl) _).drew
                  have l7 := hq8.cell j7 (by exact ngb)
                  generalize (w7.setCell ⟨b, 1, none⟩ (.int .i64 (bk : Int))).drew = w8 at HW8 hq8 l7 ⊢
                  clear p0 p1 pf hfz hq8 j7 s6 hz hbk HW7
                  obtain ⟨p0, p1, pf⟩ := HW8.out.page.cells
                  have hfz : ∀ o, w8.frozen? ⟨g9, o, none⟩ = false := fun o => by obtain ⟨y, hy⟩ := own_blk HW8.out.page.row (k := g9) rfl; exact frozen_of hy o
                  have e0 : decide ((k : Int) < 0) = false := by simp
                  have e1 : decide ((L1.length : Int) ≤ k) = false := by simp; omega
                  have e2 : (k : Int) < L1.length := by omega
                  go_wp2_with fail
                  go_region
                  have HW9 := Lib.hid (HW8.out.fromSet (i := k) (f' := bk) HML.out.symm HGET.out HROW9.out rfl hb5)
                  have HN := Lib.hid (mvAt_some HS.out)
                  rw [HAK.out, show u.size = 30 + u.data.length from rfl, HBK.out] at HN
                  go_wp2
                  go_roundw
                  case rel => exact ⟨k + 1, _, by omega, by go_num, by rw [HN.out]; exact HW9.out.drew⟩
                  case measure => simp [intOf]; omega
              · obtain rfl : k = L1.length := by omega
                go_wp2
                go_meet
                exact ⟨_, _, rows', HWR.out, Or.inr ⟨trivial, by rw [mvAt_end], by rw [mvAt_end]⟩⟩
        case rest =>
          obtain ⟨L2, st2, rows2, hw2, hor⟩ := hcut
          have HOR := Lib.hid hor
          have hl2 : L2.length = L1.length := by
            rcases hor with ⟨_, rfl, _⟩ | ⟨_, rfl, _⟩
            · rfl
            · exact movTo_length L1
          have hst2 : 30 + t.data.length ≤ st2 ∧ st2 ≤ 512 := by
            refine ⟨?_, hw2.page.lim.2⟩
            rcases hor with ⟨h1, _, rfl⟩ | ⟨_, _, rfl⟩
            · rw [h1] at hmv
              have := of_decide_eq_false hmv
              omega
            · rw [HL1.out.2.2.2.1, movTo_start]
              omega
          clear HF1 p0 p1 pf q0 q1 q2 q3 q4 q5 HW1 hor
          obtain ⟨B2, cc2, hv2, hc2, hm2, hform2⟩ := hw2.page.form
          obtain ⟨s2, hs2⟩ : ∃ s, L2[fi]? = some s := ⟨_, List.getElem?_eq_getElem (by omega)⟩
          obtain ⟨g, d, hg, hrow2, _, hcs, hfz⟩ := hform2 fi s2 hs2
          have hB : B1 = some ⟨g, 0, none⟩ := by
            injection hv2 with h1 _ _
            rw [h1]; exact hg
          subst hB
          clear hv2 hc2 hm2 hform2
          obtain ⟨p0, p1, pf⟩ := hw2.page.cells
          obtain ⟨q0, q1, q2, q3, q4, q5⟩ := box_cells hw2.box
          have HW2 := Lib.hid hw2
          have HROW2 := Lib.hid hrow2
          have kc : ∀ j, j < 8 → ∃ u, wc.cell? ⟨g, fi * 8 + j, none⟩ = some u := fun j hj => by
            have h2 : j < (slotV s2 d).length := by rw [slotV_length]; exact hj
            exact ⟨_, hcs j _ (List.getElem?_eq_getElem h2)⟩
          obtain ⟨x0, k0⟩ := kc 0 (by omega)
          obtain ⟨x1, k1⟩ := kc 1 (by omega)
          obtain ⟨x2, k2⟩ := kc 2 (by omega)
          obtain ⟨x3, k3⟩ := kc 3 (by omega)
          obtain ⟨x4, k4⟩ := kc 4 (by omega)
          obtain ⟨x5, k5⟩ := kc 5 (by omega)
          obtain ⟨x6, k6⟩ := kc 6 (by omega)
          obtain ⟨x7, k7⟩ := kc 7 (by omega)
          rw [Nat.add_zero] at k0
          have ngb : ¬ g = b := by obtain ⟨y, hy⟩ := own_blk hw2.page.row (k := g) rfl; exact ne_type hy hw2.page.blk (by decide)
          have nbg : ¬ b = g := fun e => ngb e.symm
          have ngw : ¬ g = w.heap.size := by obtain ⟨y, hy⟩ := own_blk hw2.page.row (k := g) rfl; exact ne_type hy hw2.box (by decide)
          have nwg : ¬ w.heap.size = g := fun e => ngw e.symm
          have nwb : ¬ w.heap.size = b := HB1.out
          have nbw : ¬ b = w.heap.size := fun e => nwb e.symm
          have d0 : decide ((fi : Int) < 0) = false := by simp
          have d1 : decide ((L1.length : Int) ≤ fi) = false := by simp; omega
          have d2 : (fi : Int) < L1.length := by omega
          have hst3 : (30 : Int) + t.data.length ≤ st2 := by omega
          clear hw2 hs2 hcs hrow2 kc
          go_wp2_with fail
          go_region
          have hz : (st2 : Int) - (30 + t.data.length) = ((st2 - (30 + t.data.length) : Nat) : Int) := by omega
          have HP5 := Lib.hid (HW2.out.page.stSet (st' := st2 - (30 + t.data.length)) hz (by omega))
          rw [hz] at HP5
          have hrow5 := HP5.out.row
          rw [hl2] at hrow5
          have HR6 := Lib.hid (row_eight hrow5 HP5.out.len8 HROW2.out (.bool true) (.int .u64 (t.row : Int)) (.int .u64 (t.xmin : Int)) (.int .u64 (t.xmax : Int)) (.int .i64 t.pg) (.int .i64 t.sl) (.slice A3 t.data.length cap3) (.int .i64 ((st2 - (30 + t.data.length) : Nat) : Int)))
          have HO6 := Lib.hid (eight_only (wc.setCell ⟨b, 1, none⟩ (.int .i64 ((st2 - (30 + t.data.length) : Nat) : Int))) g (fi * 8) (.bool true) (.int .u64 (t.row : Int)) (.int .u64 (t.xmin : Int)) (.int .u64 (t.xmax : Int)) (.int .i64 t.pg) (.int .i64 t.sl) (.slice A3 t.data.length cap3) (.int .i64 ((st2 - (30 + t.data.length) : Nat) : Int)))
          have HO5 : Hid (Only (· = b) wc (wc.setCell ⟨b, 1, none⟩ (.int .i64 ((st2 - (30 + t.data.length) : Nat) : Int)))) := (Only.refl (· = b) wc).setCell (p := ⟨b, 1, none⟩) (fun _ => rfl) _
          have HP6 := Lib.hid (HP5.out.slotSet (i := fi) (s' := some (st2 - (30 + t.data.length), t)) (d' := .slice A3 t.data.length cap3) (show fi < L2.length by omega) HO6.out (by rw [hl2]; exact HR6.out) (fun f' t' e => by
            injection e with e
            injection e with e1 e2
            subst e1 e2
            exact ⟨(HW2.out.dat.keptIf HO5.out (fun k e x => by obtain ⟨y, hy⟩ := HW2.out.dat.blk e; exact ne_type hy HW2.out.page.blk (by decide) x)).mono (fun k x => Or.inr x), HT.out, by omega⟩))
          have hSb : S b := HH.out.foot.1.1
          have HOS := Lib.hid ((HW2.out.only.trans' HO5.out (fun k _ e => by subst e; exact hSb)).trans' HO6.out (fun k hk e => by
            subst e
            rcases HW2.out.page.foot.2 k rfl with x | x
            · exact x
            · omega))
          have HE : Hid (insTo L st t = (L2.set fi (some (st2 - (30 + t.data.length), t)), st2 - (30 + t.data.length))) := by
            show insTo L st t = _
            unfold insTo
            rw [Hfi.out, ← hcnt, show t.size = 30 + t.data.length from rfl]
            rcases HOR.out with ⟨h1, rfl, rfl⟩ | ⟨h1, rfl, rfl⟩
            · rw [h1] at hmv
              have := of_decide_eq_false hmv
              rw [if_neg (by omega), HL1.out.2.2.1]
            · rw [h1] at hmv
              have := of_decide_eq_true hmv
              rw [if_pos (by omega), HL1.out.2.2.2.2.1, HL1.out.2.2.2.1]
          rw [hz]
          unfold eightSet at HP6 HOS
          clear HR6 HO6 HO5 HP5 HW2 k0 k1 k2 k3 k4 k5 k6 k7 p0 p1 pf q0 q1 q2 q3 q4 q5 hz
          go_wp2
          go_ret2
          rw [HE.out]
          exact ⟨by rw [Hfi.out]; rfl, HOS.out.drew, _, _, HP6.out.kept ((Only.refl (fun _ => False) _).drew) (fun _ _ x => x)⟩
    · obtain ⟨s, hs⟩ : ∃ s, L[k]? = some s := ⟨_, List.getElem?_eq_getElem (by omega)⟩
      obtain ⟨g, d, rfl, _, _, hcs, _⟩ := HF.out k s hs
      have e1 : ((k + 1 : Nat) : Int) - 1 = k := by omega
      rw [e1]
      have d0 : decide ((k : Int) < 0) = false := by simp
      have d1 : decide ((L.length : Int) ≤ k) = false := by simp; omega
      have d2 : (0 : Int) ≤ k := by omega
      have d3 : (k : Int) < L.length := by omega
      rcases s with _ | y
      · obtain ⟨k0, _⟩ := cells_none hcs
        have HE := Lib.hid (freeFrom_none hs)
        clear hs hcs e1
        go_wp2
        go_round
        case rel => exact ⟨k, by omega, by go_num, by rw [HE.out]⟩
        case measure => simp [intOf] <;> omega
      · obtain ⟨fy, ty⟩ := y
        obtain ⟨k0, _⟩ := cells_some hcs
        have HE := Lib.hid (freeFrom_some hs)
        clear hs hcs e1
        go_wp2
        go_round
        case rel => exact ⟨k, by omega, by go_num, by rw [HE.out]⟩
        case measure => simp [intOf] <;> omega

end
end Go.Proofs.Ytbibmgcklilpmaa
