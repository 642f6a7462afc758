/- The contracts of package heap: Insert whole, Free, Get, Stamp. No condition. -/
import Derived.Test.YtbibmgcklilpmaaHeapWalk2
namespace Go.Lap

/-- What lies at a place. -/
def hGet (H : List (List (Option Tup))) (pg sl : Int) : Option Tup := if pg < 0 then none else tupAt (H.getD pg.toNat []) sl

/-- What Free tells, and the pages behind it. -/
def hFree (H : List (List (Option Tup))) (pg sl : Int) : Int × List (List (Option Tup)) :=
  match hGet H pg sl with
  | none => (15, H)
  | some _ => (0, H.set pg.toNat (trimT ((H.getD pg.toNat []).set sl.toNat none)))

/-- What Stamp tells, and the pages behind it. -/
def hStamp (H : List (List (Option Tup))) (pg sl : Int) (xmax : Nat) (npg nsl : Int) : Int × List (List (Option Tup)) :=
  if pg < 0 ∨ (H.length : Int) ≤ pg then ((pStampT [] sl xmax npg nsl).1, H) else ((pStampT (H.getD pg.toNat []) sl xmax npg nsl).1, H.set pg.toNat (pStampT (H.getD pg.toNat []) sl xmax npg nsl).2)

theorem tupAt_nil (i : Int) : tupAt [] i = none := by
  unfold tupAt
  split <;> rfl

theorem hGet_out {H : List (List (Option Tup))} {pg sl : Int} (h : pg < 0 ∨ (H.length : Int) ≤ pg) : hGet H pg sl = none := by
  unfold hGet
  split
  · rfl
  · rw [List.getD_eq_getElem?_getD, List.getElem?_eq_none (by omega)]
    exact tupAt_nil sl

theorem hGet_in {H : List (List (Option Tup))} {k : Nat} {T : List (Option Tup)} (sl : Int) (h : H[k]? = some T) : hGet H (k : Int) sl = tupAt T sl := by
  unfold hGet
  rw [if_neg (by omega), Int.toNat_natCast, List.getD_eq_getElem?_getD, h]
  rfl

theorem getD_of {H : List (List (Option Tup))} {k : Nat} {T : List (Option Tup)} (h : H[k]? = some T) : H.getD k [] = T := by
  rw [List.getD_eq_getElem?_getD, h]; rfl

theorem set_same_len (T : List (Option Tup)) (i : Nat) (t u : Tup) (h : T[i]? = some (some t)) : freeT (T.set i (some u)) = freeT T := by
  have e : (T.set i (some u)).map (fun s => s.isNone) = T.map (fun s => s.isNone) := by
    rw [List.map_set]
    apply List.ext_getElem?
    intro j
    rw [List.getElem?_set]
    by_cases x : i = j
    · subst x
      have hl : i < T.length := (List.getElem?_eq_some_iff.1 h).1
      rw [if_pos rfl, if_pos (by simpa using hl), List.getElem?_map, h]
      rfl
    · rw [if_neg x]
  have f : ∀ L : List (Option Tup), freeT L = ((L.map (fun s => s.isNone)).findIdx? (fun b => b)).getD L.length := by
    intro L
    unfold freeT
    rw [List.findIdx?_map]
    rfl
  rw [f, f T, e, List.length_set]

theorem sum_set_same {α : Type} (f : α → Nat) (T : List α) (i : Nat) (a b : α) (h : T[i]? = some a) (hf : f b = f a) : ((T.set i b).map f).sum = (T.map f).sum := by
  have e : (T.set i b).map f = T.map f := by
    rw [List.map_set]
    apply List.ext_getElem?
    intro j
    rw [List.getElem?_set]
    by_cases x : i = j
    · subst x
      have hl : i < T.length := (List.getElem?_eq_some_iff.1 h).1
      rw [if_pos rfl, if_pos (by simpa using hl), List.getElem?_map, h, Option.map_some, hf]
    · rw [if_neg x]
  rw [e]

theorem tupAt_some {T : List (Option Tup)} {i : Int} {t : Tup} (h : tupAt T i = some t) : 0 ≤ i ∧ T[i.toNat]? = some (some t) := by
  unfold tupAt at h
  split at h
  · cases h
  · refine ⟨by omega, ?_⟩
    rcases hx : T[i.toNat]? with _ | s
    · rw [hx] at h; cases h
    · rw [hx] at h
      have : s = some t := h
      rw [this]

theorem pStamp_room (T : List (Option Tup)) (i : Int) (x : Nat) (pg sl : Int) : roomT (pStampT T i x pg sl).2 = roomT T := by
  unfold pStampT
  split
  · rfl
  · rcases h : tupAt T i with _ | t
    · rfl
    · obtain ⟨h0, h1⟩ := tupAt_some h
      show roomT (T.set i.toNat (some (t.stamp x pg sl))) = roomT T
      unfold roomT spentT
      rw [set_same_len T _ t _ h1, List.length_set, sum_set_same (fun s => 4 + sizeT s) T _ (some t) (some (t.stamp x pg sl)) h1 rfl]

end Go.Lap
namespace Go.Proofs.Ytbibmgcklilpmaa
open Go.RowKit Go.Lap

section
variable {w : World} {hb pb : Nat} {F : Nat → Prop} {H : List (List (Option Tup))}

theorem HeapIs.lim2 {n q : Nat} (h : HeapIs w hb pb F H) (hq : PoolAt w q n) : HeapIs w hb pb (fun k => F k ∧ k < w.heap.size ∧ k ≠ q) H := by
  obtain ⟨v, ps, rb, h⟩ := h
  exact ⟨v, ps, rb, h.lim2 hq⟩

theorem heap_insert (left : Nat) (t : Tup) (A : Option Addr) (cap : Nat) (S : Nat → Prop) (h : HeapIs w hb pb F H) (hpo : PoolAt w pb left) (hle : H.length + left ≤ 256)
    (hby : ∀ x ∈ t.data, x < 256) (hd : Rd w S 1 A t.data.length (bytesV t.data)) (hS : ∀ k, S k → ¬ F k ∧ k ≠ pb) :
    Calls Try.prog 43 #[.pointer (some ⟨hb, 0, none⟩), tupV t A cap] w fun e w' => e = .returned (.tuple #[.agg #[.int .i64 (hIns H left t).1.1, .int .i64 (hIns H left t).1.2.1], .int .i64 (hIns H left t).1.2.2]) ∧ Only (fun k => F k ∨ k = pb) w w' ∧ PoolAt w' pb (hIns H left t).2.2 ∧ HeapIs w' hb pb (fun k => F k ∨ w.heap.size ≤ k) (hIns H left t).2.1 := by
  rcases ht : t.rightB with _ | _
  · have e : hIns H left t = ((0, 0, 3), H, left) := by unfold hIns; rw [if_pos ht]
    rw [e]
    refine (heap_insert_form hb t A cap S w ht hby hd).mono ?_
    rintro e w' ⟨rfl, hq⟩
    exact ⟨rfl, hq.mono (fun _ _ x => x.elim), hpo.kept hq (fun x => x), (h.kept hq (fun _ _ x => x)).mono (fun _ x => Or.inl x)⟩
  · rcases hf : findH H t.data.length with _ | i
    · rcases left with _ | left
      · have e : hIns H 0 t = ((0, 0, 12), H, 0) := by unfold hIns; rw [if_neg (by simp [ht]), hf]; rfl
        rw [e]
        refine (heap_insert_full hb pb F H t A cap S w h hpo ht hf hby hd).mono ?_
        rintro e w' ⟨rfl, hq⟩
        exact ⟨rfl, hq.mono (fun _ _ x => x.elim), hpo.kept hq (fun x => x), (h.kept hq (fun _ _ x => x)).mono (fun _ x => Or.inl x)⟩
      · have e : hIns H (left + 1) t = (((H.length : Int), 0, 0), H ++ [[some t]], left) := by unfold hIns; rw [if_neg (by simp [ht]), hf]; rfl
        rw [e]
        exact heap_insert_grow hb pb left F H t A cap S w h hpo ht hf hle hby hd hS
    · obtain ⟨T, hT, _⟩ := findH_some hf
      have e : hIns H left t = (((i : Int), (freeT T : Int), 0), H.set i (insT T t), left) := by
        unfold hIns
        rw [if_neg (by simp [ht]), hf]
        show (((i : Int), (freeT (H.getD i []) : Int), (0 : Int)), H.set i (insT (H.getD i []) t), left) = _
        rw [getD_of hT]
      rw [e]
      refine (heap_insert_found hb pb _ H T i t A cap S w (h.lim2 hpo) ht hf hT hby hd).mono ?_
      rintro e w' ⟨rfl, ho, hh⟩
      exact ⟨rfl, ho.mono (fun _ _ x => Or.inl x.1), hpo.kept ho (fun x => x.2.2 rfl), hh.mono (fun _ x => Or.inl x.1)⟩

set_option maxHeartbeats 400000 in
set_option maxRecDepth 100000 in
theorem heap_insert_nil (t : Tup) (A : Option Addr) (cap : Nat) (w : World) :
    Calls Try.prog 43 #[.pointer none, tupV t A cap] w fun e w' => e = .returned (.tuple #[.agg #[.int .i64 0, .int .i64 0], .int .i64 15]) ∧ Quiet w w' := by
  have H0 := Lib.hid (InsW.start w t A cap)
  obtain ⟨t0, t1, tf⟩ := H0.out.cells
  unfold tupV
  go_enter Try.func43, Try.ntmps43
  go_wp2_with fail
  exact bodyPost_ret (results_cell_tmp Try.results43 _ _ (w.heap.size + 1) _ _ (0, 0) _ (by rfl) H0.out.tid Try.underlying51 rfl info_tid) (by rfl) ⟨rfl, H0.out.only⟩

/-- A place in its box. -/
theorem tid_box (w : World) (pg sl : Int) : ((w.alloc (.cells #[.int .i64 pg, .int .i64 sl] 51)).cell? ⟨w.heap.size, 0, none⟩ = some (.int .i64 pg) ∧ (w.alloc (.cells #[.int .i64 pg, .int .i64 sl] 51)).cell? ⟨w.heap.size, 1, none⟩ = some (.int .i64 sl)) := by
  have := alloc_new w (.cells #[.int .i64 pg, .int .i64 sl] 51)
  exact ⟨by rw [cell_of this]; rfl, by rw [cell_of this]; rfl⟩

theorem tid_on {S : Nat → Prop} {W W' : World} {b : Nat} {pg sl : Int} (h : W.heap[b]? = some (.cells #[.int .i64 pg, .int .i64 sl] 51 (0, 0))) (ho : Only S W W') (hn : ¬ S b) : W'.cell? ⟨b, 0, none⟩ = some (.int .i64 pg) ∧ W'.cell? ⟨b, 1, none⟩ = some (.int .i64 sl) := by
  have := ho.get h hn
  exact ⟨by rw [cell_of this]; rfl, by rw [cell_of this]; rfl⟩

set_option maxHeartbeats 400000 in
set_option maxRecDepth 100000 in
theorem heap_free_out (hp : Option Addr) (pg sl : Int) (w : World) (hpg : ∀ W : World, Quiet w W → Calls Try.prog 87 #[.pointer hp, .int .i64 pg] W fun e w' => e = .returned (.pointer none) ∧ W = w') :
    Calls Try.prog 47 #[.pointer hp, .agg #[.int .i64 pg, .int .i64 sl]] w fun e w' => e = .returned (.int .i64 15) ∧ Quiet w w' := by
  have HPG := Lib.hid hpg
  have HT := Lib.hid (alloc_new w (.cells #[.int .i64 pg, .int .i64 sl] 51))
  have HQ : Hid (Quiet w (w.alloc (.cells #[.int .i64 pg, .int .i64 sl] 51))) := (Only.refl _ _).alloc _
  clear hpg
  go_enter Try.func47, Try.ntmps47
  go_wp2_with fail
  go_region_held3 (fun w' => w'.cell? ⟨w.heap.size, 0, none⟩ = some (.int .i64 pg) ∧ w'.cell? ⟨w.heap.size, 1, none⟩ = some (.int .i64 sl))
    (first | go_keep | exact tid_on (by exact HT.out) ho3 (fun x => x) | fail)
    (first
      | (go_at_call 87; go_must (refine (HPG.out _ (HQ.out.drew)).mono ?_; rintro e w2 ⟨rfl, rfl⟩))
      | (go_at_call 31; go_must (refine (page_free_nil sl _).mono ?_; rintro e w3 ⟨rfl, ho3⟩))
      | fail)
  go_wp2
  go_ret
  exact ⟨rfl, (HQ.out.drew).trans ho3⟩

set_option maxHeartbeats 400000 in
set_option maxRecDepth 100000 in
theorem heap_free_none (k : Nat) (sl : Int) (T : List (Option Tup)) (h : HeapIs w hb pb F H) (hT : H[k]? = some T) (hs : tupAt T sl = none) :
    Calls Try.prog 47 #[.pointer (some ⟨hb, 0, none⟩), .agg #[.int .i64 (k : Int), .int .i64 sl]] w fun e w' => e = .returned (.int .i64 15) ∧ Quiet w w' := by
  obtain ⟨v, ps, rb, h⟩ := h
  obtain ⟨p, hp, hpt⟩ := h.pg k T hT
  have HQ : Hid (Quiet w (w.alloc (.cells #[.int .i64 (k : Int), .int .i64 sl] 51))) := (Only.refl _ _).alloc _
  have HT := Lib.hid (alloc_new w (.cells #[.int .i64 (k : Int), .int .i64 sl] 51))
  have HPG : Hid (∀ W : World, Quiet w W → Calls Try.prog 87 #[.pointer (some ⟨hb, 0, none⟩), .int .i64 (k : Int)] W fun e w' => e = .returned (.pointer (some ⟨p, 0, none⟩)) ∧ W = w') := fun W hq => heap_page_some k p (h.kept hq (fun _ _ x => x)) hp
  have HFR : Hid (∀ W : World, Quiet w W → Calls Try.prog 31 #[.pointer (some ⟨p, 0, none⟩), .int .i64 sl] W fun e w' => e = .returned (.int .i64 15) ∧ Quiet W w') := fun W hq => pageT_free_none p T sl W (hpt.kept hq (fun x => x)) hs
  clear h hp hpt hT hs
  go_enter Try.func47, Try.ntmps47
  go_wp2_with fail
  go_region_held3 (fun w' => w'.cell? ⟨w.heap.size, 0, none⟩ = some (.int .i64 (k : Int)) ∧ w'.cell? ⟨w.heap.size, 1, none⟩ = some (.int .i64 sl))
    (first | go_keep | exact tid_on (by exact HT.out) ho3 (fun x => x) | fail)
    (first
      | (go_at_call 87; go_must (refine (HPG.out _ (HQ.out.drew)).mono ?_; rintro e w2 ⟨rfl, rfl⟩))
      | (go_at_call 31; go_must (refine (HFR.out _ (HQ.out.drew)).mono ?_; rintro e w3 ⟨rfl, ho3⟩))
      | fail)
  go_wp2
  go_ret
  exact ⟨rfl, (HQ.out.drew).trans ho3⟩

set_option maxHeartbeats 400000 in
set_option maxRecDepth 100000 in
theorem heap_free_some (k : Nat) (sl : Int) (T : List (Option Tup)) (t : Tup) (h : HeapIs w hb pb F H) (hT : H[k]? = some T) (hs : tupAt T sl = some t) :
    Calls Try.prog 47 #[.pointer (some ⟨hb, 0, none⟩), .agg #[.int .i64 (k : Int), .int .i64 sl]] w fun e w' => e = .returned (.int .i64 0) ∧ Only F w w' ∧ HeapIs w' hb pb F (H.set k (trimT (T.set sl.toNat none))) := by
  have h256 := h.most
  obtain ⟨v, ps, rb, h⟩ := h.lim
  obtain ⟨p, hp, hpt⟩ := h.pg k T hT
  have hkl : k < H.length := (List.getElem?_eq_some_iff.1 hT).1
  have HQ : Hid (Quiet w (w.alloc (.cells #[.int .i64 (k : Int), .int .i64 sl] 51))) := (Only.refl _ _).alloc _
  have HT := Lib.hid (alloc_new w (.cells #[.int .i64 (k : Int), .int .i64 sl] 51))
  have HPG : Hid (∀ W : World, Quiet w W → Calls Try.prog 87 #[.pointer (some ⟨hb, 0, none⟩), .int .i64 (k : Int)] W fun e w' => e = .returned (.pointer (some ⟨p, 0, none⟩)) ∧ W = w') := fun W hq => heap_page_some k p (h.kept hq (fun _ _ x => x)) hp
  have HFR : Hid (∀ W : World, Quiet w W → Calls Try.prog 31 #[.pointer (some ⟨p, 0, none⟩), .int .i64 sl] W fun e w' => e = .returned (.int .i64 0) ∧ Only (· = p) W w' ∧ PageT w' p (trimT (T.set sl.toNat none))) := fun W hq => pageT_free_some p t T sl W (hpt.kept hq (fun x => x)) hs
  have HH := Lib.hid h
  have HHP := Lib.hid hp
  have HPL : Hid (p < w.heap.size) := hpt.lt
  clear h hp hpt hT hs
  go_enter Try.func47, Try.ntmps47
  go_wp2_with fail
  go_region_held3 (fun w' => w'.cell? ⟨w.heap.size, 0, none⟩ = some (.int .i64 (k : Int)) ∧ w'.cell? ⟨w.heap.size, 1, none⟩ = some (.int .i64 sl))
    (first | go_keep | exact tid_on (by exact HT.out) ho3 (by have := HPL.out; omega) | fail)
    (first
      | (go_at_call 87; go_must (refine (HPG.out _ (HQ.out.drew)).mono ?_; rintro e w2 ⟨rfl, rfl⟩))
      | (go_at_call 31; go_must (refine (HFR.out _ (HQ.out.drew)).mono ?_; rintro e w3 ⟨rfl, ho3, hp3⟩))
      | fail)
  have HH3 := Lib.hid ((HH.out.kept HQ.out.drew (fun _ _ x => x)).turn HHP.out ho3 hp3)
  have HO3 : Hid (Only F w w3) := ((HQ.out.drew).mono (T := F) (fun _ _ x => x.elim)).trans' ho3 (fun j _ e => by subst e; exact (HH.out.foot.2.2.1 j (List.mem_of_getElem? HHP.out)).1)
  obtain ⟨t0, t1⟩ := tid_on (by exact HT.out) ho3 (by have := HPL.out; omega)
  clear ho3 hp3 HPG HFR
  go_wp2_with fail
  refine (heap_told k p _ HH3.out HHP.out (by rw [List.getElem?_set_self hkl]) (by simp; omega) (by omega)).mono ?_
  rintro e w5 ⟨rfl, ho5, hh5⟩
  rw [set_rooms H k _ hkl] at hh5
  have HH5 := Lib.hid hh5
  have HO5 : Hid (Only F w w5) := HO3.out.trans' ho5 (fun j _ e => by subst e; exact HH.out.foot.2.1.1)
  clear ho5 hh5
  go_wp2
  go_ret
  exact ⟨rfl, HO5.out, _, _, _, HH5.out.mono (fun _ x => x.1)⟩

theorem heap_free_nil (pg sl : Int) (w : World) :
    Calls Try.prog 47 #[.pointer none, .agg #[.int .i64 pg, .int .i64 sl]] w fun e w' => e = .returned (.int .i64 15) ∧ Quiet w w' :=
  heap_free_out none pg sl w (fun W _ => heap_page_nil pg W)

theorem heap_free (pg sl : Int) (h : HeapIs w hb pb F H) :
    Calls Try.prog 47 #[.pointer (some ⟨hb, 0, none⟩), .agg #[.int .i64 pg, .int .i64 sl]] w fun e w' => e = .returned (.int .i64 (hFree H pg sl).1) ∧ Only F w w' ∧ HeapIs w' hb pb F (hFree H pg sl).2 := by
  by_cases hn : pg < 0 ∨ (H.length : Int) ≤ pg
  · have e : hFree H pg sl = (15, H) := by unfold hFree; rw [hGet_out hn]
    rw [e]
    refine (heap_free_out (some ⟨hb, 0, none⟩) pg sl w (fun W hq => ?_)).mono ?_
    · obtain ⟨v, ps, rb, h⟩ := h
      exact heap_page_none pg (h.kept hq (fun _ _ x => x)) hn
    · rintro e w' ⟨rfl, hq⟩
      exact ⟨rfl, hq.mono (fun _ _ x => x.elim), h.kept hq (fun _ _ x => x)⟩
  · obtain ⟨k, rfl⟩ := Int.eq_ofNat_of_zero_le (show 0 ≤ pg by omega)
    have hT : H[k]? = some (H.getD k []) := by
      rw [List.getD_eq_getElem?_getD, List.getElem?_eq_getElem (show k < H.length by omega)]; rfl
    have hg := hGet_in sl hT
    rcases hs : tupAt (H.getD k []) sl with _ | t
    · have e : hFree H (k : Int) sl = (15, H) := by unfold hFree; rw [hg, hs]
      rw [e]
      refine (heap_free_none k sl _ h hT hs).mono ?_
      rintro e w' ⟨rfl, hq⟩
      exact ⟨rfl, hq.mono (fun _ _ x => x.elim), h.kept hq (fun _ _ x => x)⟩
    · have e : hFree H (k : Int) sl = (0, H.set k (trimT ((H.getD k []).set sl.toNat none))) := by unfold hFree; rw [hg, hs]; rfl
      rw [e]
      exact heap_free_some k sl _ t h hT hs

end

end Go.Proofs.Ytbibmgcklilpmaa
