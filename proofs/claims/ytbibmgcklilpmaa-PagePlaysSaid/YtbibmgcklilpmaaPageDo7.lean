/- A call that loads the page anew; any call; what nil pages answer. No condition. -/
import Derived.Test.YtbibmgcklilpmaaPageDo
import Derived.Test.YtbibmgcklilpmaaPageLoad
import Derived.Test.YtbibmgcklilpmaaPageTwice
import Derived.Test.YtbibmgcklilpmaaRefBytes3
namespace Go.Lap

theorem Pg.congr {g g' : Nat → Nat} {L : List Slot} {st : Nat} (h : Pg g L st) (he : ∀ x, x < 512 → g x = g' x) (hl : ∀ i, g' i < 256) : Pg g' L st := by
  have hfit := h.fit
  have hle := h.le
  have key : ∀ off n, off + n ≤ 512 → leNum g' off n = leNum g off n := fun off n hn => leNum_congr n off (fun i h1 h2 => (he i (by omega)).symm)
  refine ⟨hl, by rw [key 0 2 (by omega)]; exact h.cnt, by rw [key 2 2 (by omega)]; exact h.st, h.fit, h.le, fun i s hi => ?_, fun i f t hi => ?_, h.sep, fun x h1 h2 h3 => by rw [← he x h2]; exact h.zero x h1 h2 h3⟩
  · have := (List.getElem?_eq_some_iff.1 hi).1
    rw [key _ 2 (by omega), key _ 2 (by omega)]
    exact h.ptr i s hi
  · obtain ⟨a, b, c, d⟩ := h.ver i f t hi
    exact ⟨a, b, c, fun j hj => by rw [← he _ (by omega)]; exact d j hj⟩

end Go.Lap
namespace Go.Proofs.Ytbibmgcklilpmaa
open Go.RowKit Go.Lap

theorem gOf_pg (g : Nat → Nat) : ∀ x, x < 512 → g x = gOf (pgL g) x := by
  intro x hx
  unfold gOf pgL
  rw [List.getD_eq_getElem?_getD, List.getElem?_map, List.getElem?_range hx]
  rfl

theorem page_bytes_nil (w : World) : Calls Try.prog 64 #[.pointer none] w fun e w' => e = .returned (.slice none 0 0) ∧ w = w' := by
  go_enter Try.func64, Try.ntmps64
  go_wp2
  go_ret
  exact ⟨rfl, rfl⟩

set_option maxHeartbeats 1000000 in
theorem page_used_nil (w : World) : Calls Try.prog 32 #[.pointer none] w fun e w' => e = .returned (.int .i64 0) ∧ w = w' := by
  go_enter Try.func32, Try.ntmps32
  go_wp2_with fail
  refine (page_slots_nil _).mono ?_
  rintro e w1 ⟨rfl, rfl⟩
  go_wp2_with fail
  refine wp_loop_rounds 1 ?_
  rw [rounds_succ]
  go_wp2
  go_ret
  exact ⟨rfl, rfl⟩

/-- What any call leaves. -/
def DoAll (W : World) (P X : Option Nat) (S : Nat → Prop) (e : Ending) (w' : World) : Prop :=
  ∃ P' : Option Nat, e = .returned (.tuple #[.pointer (pt P'), .bool true]) ∧ Only (fun k => S k ∨ P = some k) W w' ∧ (∃ (S' : Nat → Prop) (L' : List Slot) (st' : Nat), BothAt w' P' X S' L' st' L' st' ∧ LastSome L' ∧ ∀ k, S' k → S k ∨ W.heap.size ≤ k) ∧ ∀ k, P' = some k → P = some k ∨ W.heap.size ≤ k

set_option maxHeartbeats 2000000 in
set_option maxRecDepth 100000 in
theorem do_load {W : World} {P X : Option Nat} {S Sd : Nat → Prop} {L : List Slot} {st : Nat} (dn : Nat) (i : Int) (t : Tup) (A' : Option Addr) (cap' : Nat) (hB : BothAt W P X S L st L st) (hls : LastSome L) (hdn : dn < 256) (h7 : dn % 8 = 7) (hd : Rd W Sd 1 A' t.data.length (bytesV t.data)) (hlc : t.data.length ≤ cap') (hcm : cap' ≤ maxLen) :
    Calls Try.prog 71 #[.pointer (pt P), .pointer (pt X), .agg #[.int .u8 (dn : Int), .int .i64 i, .int .u64 (t.row : Int), .int .u64 (t.xmin : Int), .int .u64 (t.xmax : Int), .int .i64 t.pg, .int .i64 t.sl, .slice A' t.data.length cap']] W (DoAll W P X S) := by
  have HB := Lib.hid hB
  have HD := Lib.hid hd
  have HLC := Lib.hid hlc
  have HCM := Lib.hid hcm
  have HLS := Lib.hid hls
  have HFEW : Hid (∀ W1, Rd W1 Sd 1 A' t.data.length (bytesV t.data) → Calls Try.prog 33 #[.agg #[.int .u64 (t.row : Int), .int .u64 (t.xmin : Int), .int .u64 (t.xmax : Int), .int .i64 t.pg, .int .i64 t.sl, .slice A' t.data.length cap']] W1 (TupPost W1 t.few)) := Lib.hid (fun W1 h1 => few_any t A' cap' _ W1 h1 HLC.out HCM.out)
  have HQ0 : Hid (Quiet W (W.alloc (.cells #[.int .u8 (dn : Int), .int .i64 i, .int .u64 (t.row : Int), .int .u64 (t.xmin : Int), .int .u64 (t.xmax : Int), .int .i64 t.pg, .int .i64 t.sl, .slice A' t.data.length cap'] 119))) := Lib.hid ((Only.refl _ _).alloc _)
  have HO0 := Lib.hid (alloc_new W (.cells #[.int .u8 (dn : Int), .int .i64 i, .int .u64 (t.row : Int), .int .u64 (t.xmin : Int), .int .u64 (t.xmax : Int), .int .i64 t.pg, .int .i64 t.sl, .slice A' t.data.length cap'] 119))
  have ht8 : (dn : Int).tmod 8 = 7 := by rw [Int.tmod_eq_emod_of_nonneg (by omega)]; omega
  have hw8 : IntKind.u8.wrap 7 = 7 := wrapU8 7 (by omega)
  obtain ⟨u, hu⟩ : ∃ u, t.few = u := ⟨_, rfl⟩
  rw [hu] at HFEW
  clear hB hd hlc hcm hu hls h7
  go_enter Try.func71, Try.ntmps71
  go_wp2_with fail
  refine (HFEW.out _ (HD.out.kept HQ0.out (fun _ _ x => x))).mono ?_
  rintro e w1 ⟨A1, n1, rfl, hf1⟩
  unfold tupV
  have hq1 := hf1.quiet
  have HQ1 : Hid (Quiet W (w1.alloc (.cells #[.int .u64 (u.row : Int), .int .u64 (u.xmin : Int), .int .u64 (u.xmax : Int), .int .i64 u.pg, .int .i64 u.sl, .slice A1 u.data.length n1] 54))) := Lib.hid ((HQ0.out.trans hq1).alloc _)
  have hop := (hq1.alloc (.cells #[.int .u64 (u.row : Int), .int .u64 (u.xmin : Int), .int .u64 (u.xmax : Int), .int .i64 u.pg, .int .i64 u.sl, .slice A1 u.data.length n1] 54)).get HO0.out (fun x => x)
  have o0 : (w1.alloc (.cells #[.int .u64 (u.row : Int), .int .u64 (u.xmin : Int), .int .u64 (u.xmax : Int), .int .i64 u.pg, .int .i64 u.sl, .slice A1 u.data.length n1] 54)).cell? ⟨W.heap.size, 0, none⟩ = some (.int .u8 (dn : Int)) := by rw [cell_of hop]; rfl
  have HB1 := Lib.hid (HB.out.quietly HQ1.out)
  clear hf1 hq1 hop HB HO0 HQ0 HFEW HD
  go_upto_region 2 with (fail)
  generalize w1.alloc (.cells #[.int .u64 (u.row : Int), .int .u64 (u.xmin : Int), .int .u64 (u.xmax : Int), .int .i64 u.pg, .int .i64 u.sl, .slice A1 u.data.length n1] 54) = w2 at HQ1 o0 HB1 ⊢
  rcases HB1.out.sides with ⟨rfl, rfl, rfl, _⟩ | ⟨pb, xb, rfl, rfl, hpa, hrp⟩
  · have hpt : pt none = none := rfl
    rw [hpt]
    go_wp2
    go_ret2
    exact ⟨none, rfl, HQ1.out.mono (fun _ _ x => x.elim), ⟨S, [], st, HB1.out, HLS.out, fun k x => Or.inl x⟩, fun k e => by cases e⟩
  · have hpt : pt (some pb) = some ⟨pb, 0, none⟩ := rfl
    rw [hpt]
    obtain ⟨g, hbk, hpg⟩ := hpa
    have HBK := Lib.hid hbk
    have HPG := Lib.hid hpg
    clear hbk hpg hrp
    go_wp2_with fail
    refine (page_bytes pb g _ HBK.out).mono ?_
    rintro e w3 ⟨v3, rfl, hf3⟩
    obtain ⟨A3, c3, hv3, _, _, _⟩ := own_form hf3.own
    rw [pgL_len] at hv3
    subst hv3
    have HQ3 := Lib.hid hf3.quiet
    have HGL : Hid (∀ i, gOf (pgL g) i < 256) := Lib.hid (gOf_lt (fun x hx => by
      obtain ⟨j, _, rfl⟩ := List.mem_map.1 hx
      exact HPG.out.lt j))
    have HPL := Lib.hid (page_load A3 c3 (pgL g) _ w3 (pgL_len g) (fun x hx => by
      obtain ⟨j, _, rfl⟩ := List.mem_map.1 hx
      exact HPG.out.lt j) (by rw [pgL_len]; exact fresh_rd hf3 (pgL_len g)))
    have HPG2 := Lib.hid (HPG.out.congr (gOf_pg g) HGL.out)
    have HOK : Hid (PgOk (gOf (pgL g))) := Lib.hid ⟨_, _, HPG2.out, HLS.out⟩
    clear hf3
    generalize gOf (pgL g) = g2 at HPL HPG2 HOK
    go_wp2_with fail
    refine HPL.out.mono ?_
    rintro e w4 ⟨hq4, hres⟩
    rcases hres with ⟨_, qb, rfl, hqb, hbk⟩ | ⟨hno, _⟩
    · have HQ4 := Lib.hid (HQ3.out.trans hq4)
      have HB4 : Hid (BothAt w4 (some qb) (some xb) S L st L st) := Lib.hid (by
        have h1 := HB1.out.quietly HQ4.out
        refine ⟨h1.1, ?_⟩
        rcases h1.2 with ⟨e, _⟩ | ⟨pb', xb', e1, e2, _, h4, _⟩
        · cases e
        · injection e2 with e2
          subst e2
          exact Or.inr ⟨qb, xb, rfl, rfl, ⟨g2, hbk, HPG2.out⟩, h4, fun x => by have h5 := HB1.out.1 qb x; have h6 := HQ3.out.size; omega⟩)
      have HNW : Hid (W.heap.size ≤ qb) := Lib.hid (by have h5 := HQ1.out.size; have h6 := HQ3.out.size; omega)
      clear hq4 hbk hqb HPL
      go_wp2
      go_ret2
      exact ⟨some qb, rfl, (HQ1.out.trans HQ4.out).mono (fun _ _ x => x.elim), ⟨S, L, st, HB4.out, HLS.out, fun k x => Or.inl x⟩, fun k e => by injection e with e; exact Or.inr (by have := HNW.out; omega)⟩
    · exact absurd HOK.out hno

theorem do_all {W : World} {P X : Option Nat} {S Sd : Nat → Prop} {L : List Slot} {st : Nat} (dn : Nat) (i : Int) (t : Tup) (A' : Option Addr) (cap' : Nat) (hB : BothAt W P X S L st L st) (hls : LastSome L) (hdn : dn < 256) (hd : Rd W Sd 1 A' t.data.length (bytesV t.data)) (hS : ∀ k, Sd k → ¬ S k ∧ P ≠ some k) (hlc : t.data.length ≤ cap') (hcm : cap' ≤ maxLen) (hby : ∀ x ∈ t.data, x < 256) :
    Calls Try.prog 71 #[.pointer (pt P), .pointer (pt X), .agg #[.int .u8 (dn : Int), .int .i64 i, .int .u64 (t.row : Int), .int .u64 (t.xmin : Int), .int .u64 (t.xmax : Int), .int .i64 t.pg, .int .i64 t.sl, .slice A' t.data.length cap']] W (DoAll W P X S) := by
  by_cases h7 : dn % 8 = 7
  · exact do_load dn i t A' cap' hB hls hdn h7 hd hlc hcm
  · refine (do_any dn i t A' cap' hB hdn h7 hd hS hlc hcm hby).mono ?_
    rintro e w' ⟨rfl, ho, S', L', st', hb, hl, hk⟩
    exact ⟨P, rfl, ho, ⟨S', L', st', hb, hl hls, hk⟩, fun k e => Or.inl e⟩

end Go.Proofs.Ytbibmgcklilpmaa
