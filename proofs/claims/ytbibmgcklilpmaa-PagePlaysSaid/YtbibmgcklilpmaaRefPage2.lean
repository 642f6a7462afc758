/- The document's page: Get, Stamp, Free. No condition. -/
import Derived.Test.YtbibmgcklilpmaaRefPage
import Derived.Test.YtbibmgcklilpmaaHeapWalk4
namespace Go.Proofs.Ytbibmgcklilpmaa
open Go.RowKit Go.Lap

set_option maxHeartbeats 400000 in
set_option maxRecDepth 100000 in
theorem rp_get_nil (i : Int) (w : World) : Calls Try.prog 73 #[.pointer none, .int .i64 i] w (GetNone w) := by
  go_enter Try.func73, Try.ntmps73
  go_wp2
  exact bodyPost_ret (results_cell_tmp Try.results73 _ _ w.heap.size _ _ (0, 0) _ (by rfl) (alloc_new _ _) Try.underlying54 rfl info_tup) (by rfl) ⟨rfl, (Only.refl _ _).alloc _⟩

section
variable {w : World} {b st : Nat} {S : Nat → Prop} {L : List Slot}

set_option maxHeartbeats 400000 in
set_option maxRecDepth 100000 in
theorem rp_get_none (i : Int) (h : RefPg w b S L st) (hi : slotAt L i = none) : Calls Try.prog 73 #[.pointer (some ⟨b, 0, none⟩), .int .i64 i] w (GetNone w) := by
  obtain ⟨v, rows, h⟩ := h
  obtain ⟨A, c, rfl, hc, hm, hf⟩ := h.form
  obtain ⟨c0, c1, cf⟩ := h.cells
  have hbl := lt_of_get h.blk
  unfold maxLen at hm
  by_cases h0 : i < 0
  · clear h hf hi cf c1
    go_enter Try.func73, Try.ntmps73
    go_wp2
    exact bodyPost_ret (results_cell_tmp Try.results73 _ _ w.heap.size _ _ (0, 0) _ (by rfl) (alloc_new _ _) Try.underlying54 rfl info_tup) (by rfl) ⟨rfl, (Only.refl _ _).alloc _⟩
  · obtain ⟨k, rfl⟩ := Int.eq_ofNat_of_zero_le (show 0 ≤ i by omega)
    rw [slotAt_nat] at hi
    have d0 : decide ((k : Int) < 0) = false := by simp
    by_cases hk : k < L.length
    · obtain ⟨s, hs⟩ : ∃ s, L[k]? = some s := ⟨_, List.getElem?_eq_getElem hk⟩
      have hsn : s = none := by rw [hs] at hi; exact hi
      subst hsn
      obtain ⟨g, d, rfl, _, _, hcs, _⟩ := hf k none hs
      obtain ⟨k0, k1, k2, k3, k4, k5, k6, k7⟩ := cells_none hcs
      have hgl := cell_lt k0
      have d1 : decide ((L.length : Int) ≤ k) = false := by simp; omega
      clear h hf hi cf c1 hs hcs
      go_enter Try.func73, Try.ntmps73
      go_wp2
      exact bodyPost_ret (results_cell_tmp Try.results73 _ _ w.heap.size _ _ (0, 0) _ (by rfl) (alloc_new _ _) Try.underlying54 rfl info_tup) (by rfl) ⟨rfl, (Only.refl _ _).alloc _⟩
    · have d1 : decide ((L.length : Int) ≤ k) = true := by simp; omega
      clear h hf hi cf c1
      go_enter Try.func73, Try.ntmps73
      go_wp2
      exact bodyPost_ret (results_cell_tmp Try.results73 _ _ w.heap.size _ _ (0, 0) _ (by rfl) (alloc_new _ _) Try.underlying54 rfl info_tup) (by rfl) ⟨rfl, (Only.refl _ _).alloc _⟩

/-- What the document's Get tells: the data are the page's own. -/
def RefGot (w : World) (S : Nat → Prop) (t : Tup) (e : Ending) (w' : World) : Prop :=
  ∃ A c, e = .returned (.tuple #[tupV t A c, .bool true]) ∧ Quiet w w' ∧ DatAt w S t (.slice A t.data.length c)

set_option maxHeartbeats 400000 in
set_option maxRecDepth 100000 in
theorem rp_get_some (i : Int) (f : Nat) (t : Tup) (h : RefPg w b S L st) (hi : slotAt L i = some (f, t)) : Calls Try.prog 73 #[.pointer (some ⟨b, 0, none⟩), .int .i64 i] w (RefGot w S t) := by
  obtain ⟨v, rows, h⟩ := h
  obtain ⟨A, c, rfl, hc, hm, hf⟩ := h.form
  obtain ⟨c0, c1, cf⟩ := h.cells
  have hbl := lt_of_get h.blk
  unfold maxLen at hm
  obtain ⟨k, rfl, hk, hs⟩ := slotAt_some hi
  have d0 : decide ((k : Int) < 0) = false := by simp
  have d1 : decide ((L.length : Int) ≤ k) = false := by simp; omega
  obtain ⟨g, d, rfl, _, hd, hcs, _⟩ := hf k _ hs
  have HD := Lib.hid (hd f t rfl).1
  obtain ⟨A', c', rfl, _⟩ := (hd f t rfl).1
  obtain ⟨k0, k1, k2, k3, k4, k5, k6, k7⟩ := cells_some hcs
  have hgl := cell_lt k0
  clear h hf hi cf c1 hs hcs hd
  go_enter Try.func73, Try.ntmps73
  go_wp2
  exact bodyPost_ret (results_cell_tmp Try.results73 _ _ w.heap.size _ _ (0, 0) _ (by rfl) (alloc_new _ _) Try.underlying54 rfl info_tup) (by rfl) ⟨_, _, rfl, (Only.refl _ _).alloc _, HD.out⟩

set_option maxHeartbeats 400000 in
set_option maxRecDepth 100000 in
theorem rp_stamp_nil (i : Int) (x : Nat) (pg sl : Int) (w : World) :
    Calls Try.prog 88 #[.pointer none, .int .i64 i, .int .u64 (x : Int), .agg #[.int .i64 pg, .int .i64 sl]] w fun e w' => e = .returned (.int .i64 15) ∧ Quiet w w' := by
  go_enter Try.func88, Try.ntmps88
  go_wp2
  go_ret
  exact ⟨rfl, (Only.refl _ _).alloc _⟩

set_option maxHeartbeats 400000 in
set_option maxRecDepth 100000 in
theorem rp_stamp_form (i : Int) (x : Nat) (pg sl : Int) (b : Nat) (w : World) (hx : 1099511627776 < x ∨ farB pg sl = true) :
    Calls Try.prog 88 #[.pointer (some ⟨b, 0, none⟩), .int .i64 i, .int .u64 (x : Int), .agg #[.int .i64 pg, .int .i64 sl]] w fun e w' => e = .returned (.int .i64 3) ∧ Quiet w w' := by
  by_cases h1 : 1099511627776 < x
  · have d1 : decide ((1099511627776:Int) < x) = true := decide_eq_true (by omega)
    clear hx
    go_enter Try.func88, Try.ntmps88
    go_wp2
    go_ret
    exact ⟨rfl, (Only.refl _ _).alloc _⟩
  · have d1 : decide ((1099511627776:Int) < x) = false := decide_eq_false (by omega)
    have HFR := Lib.hid (rfar_any pg sl)
    rw [show farB pg sl = true by rcases hx with h | h; exact absurd h h1; exact h] at HFR
    clear hx
    go_enter Try.func88, Try.ntmps88
    go_wp2_with fail
    refine (HFR.out _).mono ?_
    rintro e w1 ⟨rfl, hq1⟩
    go_wp2
    go_ret
    exact ⟨rfl, ((Only.refl _ _).alloc _).trans hq1⟩

set_option maxHeartbeats 400000 in
set_option maxRecDepth 100000 in
theorem rp_stamp_none (i : Int) (x : Nat) (pg sl : Int) (h : RefPg w b S L st) (hx : x ≤ 1099511627776) (hf : farB pg sl = false) (hi : slotAt L i = none) :
    Calls Try.prog 88 #[.pointer (some ⟨b, 0, none⟩), .int .i64 i, .int .u64 (x : Int), .agg #[.int .i64 pg, .int .i64 sl]] w fun e w' => e = .returned (.int .i64 15) ∧ Quiet w w' := by
  have d1 : decide ((1099511627776:Int) < x) = false := decide_eq_false (by omega)
  have HFR := Lib.hid (rfar_any pg sl)
  rw [hf] at HFR
  have HG : Hid (∀ W : World, Quiet w W → Calls Try.prog 73 #[.pointer (some ⟨b, 0, none⟩), .int .i64 i] W (GetNone W)) := fun W hq => rp_get_none i (h.kept hq (fun _ _ x => x)) hi
  have HQ : Hid (Quiet w (w.alloc (.cells #[.int .i64 pg, .int .i64 sl] 51))) := (Only.refl _ _).alloc _
  clear h hi hf
  go_enter Try.func88, Try.ntmps88
  go_wp2_with fail
  refine (HFR.out _).mono ?_
  rintro e w1 ⟨rfl, hq1⟩
  have HQ1 := Lib.hid (HQ.out.trans hq1)
  clear hq1
  go_wp2_with fail
  refine (HG.out _ HQ1.out).mono ?_
  rintro e w2 ⟨rfl, hq2⟩
  have HQ2 := Lib.hid (HQ1.out.trans hq2)
  clear hq2
  go_wp2
  go_ret
  exact ⟨rfl, HQ2.out.alloc _⟩

/-- Three cells of a slot. -/
theorem row_three {w : World} {rows : List (List Value)} {e : TypeId} {g n c i f : Nat} {t : Tup} {d : Value} (h : w.ownsRow 0 e 8 (.slice (some ⟨g, 0, none⟩) n c) n rows.flatten) (h8 : ∀ r ∈ rows, r.length = 8) (hi : rows[i]? = some (slotV (some (f, t)) d)) (x : Nat) (pg sl : Int) :
    (((w.setCell ⟨g, i * 8 + 3, none⟩ (.int .u64 (x : Int))).setCell ⟨g, i * 8 + 4, none⟩ (.int .i64 pg)).setCell ⟨g, i * 8 + 5, none⟩ (.int .i64 sl)).ownsRow 0 e 8 (.slice (some ⟨g, 0, none⟩) n c) n (rows.set i (slotV (some (f, t.stamp x pg sl)) d)).flatten := by
  obtain ⟨a3, b3, c3⟩ := row_cell h h8 hi (j := 3) (by omega) (.int .u64 (x : Int))
  obtain ⟨a4, b4, c4⟩ := row_cell a3 b3 c3 (j := 4) (by omega) (.int .i64 pg)
  obtain ⟨a5, b5, c5⟩ := row_cell a4 b4 c4 (j := 5) (by omega) (.int .i64 sl)
  simp only [List.set_set] at a5
  exact a5

set_option maxHeartbeats 1000000 in
set_option maxRecDepth 100000 in
theorem rp_stamp_some (i : Int) (x : Nat) (pg sl : Int) (f : Nat) (t : Tup) (h : RefPg w b S L st) (hx : x ≤ 1099511627776) (hf : farB pg sl = false) (hi : slotAt L i = some (f, t)) :
    Calls Try.prog 88 #[.pointer (some ⟨b, 0, none⟩), .int .i64 i, .int .u64 (x : Int), .agg #[.int .i64 pg, .int .i64 sl]] w fun e w' => e = .returned (.int .i64 0) ∧ Only S w w' ∧ RefPg w' b S (L.set i.toNat (some (f, t.stamp x pg sl))) st := by
  have d1 : decide ((1099511627776:Int) < x) = false := decide_eq_false (by omega)
  have HFR := Lib.hid (rfar_any pg sl)
  rw [hf] at HFR
  have HFF := Lib.hid hf
  have HG : Hid (∀ W : World, Quiet w W → Calls Try.prog 73 #[.pointer (some ⟨b, 0, none⟩), .int .i64 i] W (RefGot W S t)) := fun W hq => rp_get_some i f t (h.kept hq (fun _ _ x => x)) hi
  have HQ : Hid (Quiet w (w.alloc (.cells #[.int .i64 pg, .int .i64 sl] 51))) := (Only.refl _ _).alloc _
  have HT := Lib.hid (alloc_new w (.cells #[.int .i64 pg, .int .i64 sl] 51))
  obtain ⟨k, rfl, hk, hs⟩ := slotAt_some hi
  rw [Int.toNat_natCast]
  obtain ⟨v, rows, h⟩ := h
  obtain ⟨A, c, rfl, hc, hm, hform⟩ := h.form
  obtain ⟨g, d, rfl, hrow, hd, hcs, hfz⟩ := hform k _ hs
  have HH := Lib.hid h
  have HROW := Lib.hid hrow
  have HD := Lib.hid (hd f t rfl)
  obtain ⟨A', c', rfl, _⟩ := (hd f t rfl).1
  have e0 : decide ((k : Int) < 0) = false := by simp
  have e1 : decide ((L.length : Int) ≤ k) = false := by simp; omega
  have hgl : g < w.heap.size := (h.row.lt g rfl).2
  have hbl := lt_of_get h.blk
  unfold maxLen at hm
  clear h hi hf hform hs hcs hd hfz hrow
  go_enter Try.func88, Try.ntmps88
  go_wp2_with fail
  refine (HFR.out _).mono ?_
  rintro e w1 ⟨rfl, hq1⟩
  have HQ1 := Lib.hid (HQ.out.trans hq1)
  have HT1 := Lib.hid (hq1.get HT.out (fun x => x))
  clear hq1
  go_wp2_with fail
  refine (HG.out _ HQ1.out).mono ?_
  rintro e w2 ⟨A2, c2, rfl, hq2, _⟩
  have HQ2 := Lib.hid ((HQ1.out.trans hq2).alloc (.cells #[.int .u64 (t.row : Int), .int .u64 (t.xmin : Int), .int .u64 (t.xmax : Int), .int .i64 t.pg, .int .i64 t.sl, .slice A2 t.data.length c2] 54))
  have HT2 := Lib.hid (alloc_old (hq2.get HT1.out (fun x => x)) (.cells #[.int .u64 (t.row : Int), .int .u64 (t.xmin : Int), .int .u64 (t.xmax : Int), .int .i64 t.pg, .int .i64 t.sl, .slice A2 t.data.length c2] 54))
  unfold tupV
  clear hq2 HQ1 HT1 HG HFR
  have HH2 := Lib.hid (HH.out.kept HQ2.out (fun _ _ x => x))
  have HO2 := Lib.hid HQ2.out
  clear HQ2
  go_upto_region 8 with fail
  generalize w2.alloc (.cells #[.int .u64 (t.row : Int), .int .u64 (t.xmin : Int), .int .u64 (t.xmax : Int), .int .i64 t.pg, .int .i64 t.sl, .slice A2 t.data.length c2] 54) = w3 at HT2 HH2 HO2 ⊢
  obtain ⟨t0, t1⟩ : w3.cell? ⟨w.heap.size, 0, none⟩ = some (.int .i64 pg) ∧ w3.cell? ⟨w.heap.size, 1, none⟩ = some (.int .i64 sl) := ⟨by rw [cell_of HT2.out]; rfl, by rw [cell_of HT2.out]; rfl⟩
  obtain ⟨b0, b1, bf⟩ := HH2.out.cells
  obtain ⟨k3, k4, k5, kf⟩ : w3.cell? ⟨g, k * 8 + 3, none⟩ = some (.int .u64 (t.xmax : Int)) ∧ w3.cell? ⟨g, k * 8 + 4, none⟩ = some (.int .i64 t.pg) ∧ w3.cell? ⟨g, k * 8 + 5, none⟩ = some (.int .i64 t.sl) ∧ ∀ o, w3.frozen? ⟨g, o, none⟩ = false := by
    have hrw := HH2.out.row
    have hx := fun j (hj : j < 8) => flat_get HH2.out.len8 HROW.out hj
    have hc' := fun (j : Nat) u (hu : rows.flatten[j]? = some u) => hrw.cells rfl j u hu
    simp only [add_none, Nat.zero_add] at hc'
    exact ⟨hc' _ _ ((hx 3 (by omega)).trans rfl), hc' _ _ ((hx 4 (by omega)).trans rfl), hc' _ _ ((hx 5 (by omega)).trans rfl), fun o => hrw.frozenAt o⟩
  have hgw : ¬ g = w.heap.size := by omega
  have hwg : ¬ w.heap.size = g := by omega
  have hbg : ¬ b = g := by
    obtain ⟨y, hy⟩ := own_blk HH2.out.row (k := g) rfl
    exact ne_type HH2.out.blk hy (by decide)
  clear b1 bf
  go_wp2_with fail
  go_region
  have HO4 : Hid (Only (· = g) w3 ((((w3.setCell ⟨g, k * 8 + 3, none⟩ (.int .u64 (x : Int))).setCell ⟨g, k * 8 + 4, none⟩ (.int .i64 pg)).setCell ⟨g, k * 8 + 5, none⟩ (.int .i64 sl)).drew)) :=
    (((((Only.refl (· = g) w3).setCell (p := ⟨g, k * 8 + 3, none⟩) (fun _ => rfl) _).setCell (p := ⟨g, k * 8 + 4, none⟩) (fun _ => rfl) _).setCell (p := ⟨g, k * 8 + 5, none⟩) (fun _ => rfl) _).drew)
  have HR4 := Lib.hid (row_three HH2.out.row HH2.out.len8 HROW.out x pg sl)
  have HP4 := Lib.hid (HH2.out.slotSet (s' := some (f, t.stamp x pg sl)) hk HO4.out (by exact HR4.out) (fun f' t' e => by
    injection e with e
    injection e with e1 e2
    subst e1 e2
    exact ⟨HD.out.1.kept HO2.out (fun _ _ x => x), Tup.stamp_ok HD.out.2.1 hx HFF.out, HD.out.2.2⟩))
  have HOS : Hid (Only S w ((((w3.setCell ⟨g, k * 8 + 3, none⟩ (.int .u64 (x : Int))).setCell ⟨g, k * 8 + 4, none⟩ (.int .i64 pg)).setCell ⟨g, k * 8 + 5, none⟩ (.int .i64 sl)).drew)) := (HO2.out.mono (T := S) (fun _ _ x => x.elim)).trans' HO4.out (fun j _ e => by subst e; exact HH.out.foot.2 j rfl)
  clear HO4 HR4 HH2 HT2 t0 t1 b0 k3 k4 k5 kf
  go_wp2
  go_ret
  exact ⟨rfl, HOS.out, _, _, HP4.out⟩

end
end Go.Proofs.Ytbibmgcklilpmaa
