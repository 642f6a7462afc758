/- The contract of a node's insert, at a leaf. No condition. -/
import Derived.Test.YtbeenpobppkhdaaTSplit2
import Derived.Test.YtbeenpobppkhdaaTCopy
import Derived.Deep.RegionLawGrows
namespace Go.Proofs.Ytbeenpobppkhdaa
open Go.RowKit Go.Lap

theorem rowV_ins (e : EV) (xs : List EV) : rowV (insX e xs) = (rowV xs).take (posE e.e (ents xs) * 3) ++ e.cells ++ (rowV xs).drop (posE e.e (ents xs) * 3) := by
  unfold insX
  rw [show ∀ l : List EV, e :: l = [e] ++ l from fun _ => rfl, rowV_append, rowV_append, rowV_one, rowV_take, rowV_drop, List.append_assoc]

/-- What insert leaves at a leaf. -/
theorem leaf_ins {K F : Nat → Prop} {w W w5 : World} {b : Nat} {xs : List EV} {v v5 : Value} {e : EV} (hl : Leaf K w b F xs v) (hK : ∀ k, K k → ¬ F k ∧ k < w.heap.size) (he : Keyd w K e) (hq : Quiet w W)
    (hg : Grew W w5 34 3 v v5 (xs.length + 1) ((rowV xs).take (posE e.e (ents xs) * 3) ++ e.cells ++ (rowV xs).drop (posE e.e (ents xs) * 3))) :
    Only F w (w5.setCell ⟨b, 0, none⟩ v5) ∧ Leaf K (w5.setCell ⟨b, 0, none⟩ v5) b (fun k => F k ∨ w.heap.size ≤ k) (insX e xs) v5 := by
  have hbw := lt_of_get hl.box
  have hset : Only (· = b) w5 (w5.setCell ⟨b, 0, none⟩ v5) := (Only.refl (· = b) w5).setCell (p := ⟨b, 0, none⟩) (fun _ => rfl) _
  have hvb : ∀ j, v.ownBlock = some j → j ≠ b := fun j e => by
    obtain ⟨c, hc⟩ := own_blk hl.row e
    exact ne_type hc hl.box (by decide)
  have hz := hq.size
  have hbox5 := hg.only.get (hq.get hl.box (fun x => x)) (fun e => hvb b e rfl)
  have ho : Only F w (w5.setCell ⟨b, 0, none⟩ v5) := ((hq.mono (T := F) (fun _ _ x => x.elim)).trans' hg.only (fun k hk e => hl.foot.2 k e)).trans' hset (fun k hk e => by rw [e]; exact hl.foot.1)
  have hv5b : ∀ j, v5.ownBlock = some j → j ≠ b := fun j e => by
    rcases hg.loc with x | x
    · rw [x] at e; exact hvb j e
    · rw [x] at e; injection e with e; omega
  refine ⟨ho, ⟨by rw [set_same hbox5]; rfl, ?_, fun x hx => ?_, Or.inl hl.foot.1, fun j e => ?_⟩⟩
  · unfold RowAt
    rw [insX_length, rowV_ins]
    exact owns_kept hg.own hset (fun j e x => hv5b j e x)
  · have : Keyd w K x := by
      rcases mem_insX hx with rfl | hx
      · exact he
      · exact hl.key x hx
    exact this.kept ho (fun k hk => (hK k hk).1)
  · rcases hg.loc with x | x
    · rw [x] at e; exact Or.inl (hl.foot.2 j e)
    · rw [x] at e; injection e with e; exact Or.inr (by omega)

/-- What insert tells, and leaves. -/
def InsPost (K : Nat → Prop) (h : Nat) (w : World) (b : Nat) (F : Nat → Prop) (xs : List EV) (e : EV) (r : Ending) (w' : World) : Prop :=
  (e.e ∈ ents xs ∧ r = .returned (.bool false) ∧ Only F w w' ∧ NodeAt K h w' b (fun k => F k ∨ w.heap.size ≤ k) xs) ∨
  (e.e ∉ ents xs ∧ r = .returned (.bool true) ∧ Only F w w' ∧ NodeAt K h w' b (fun k => F k ∨ w.heap.size ≤ k) (insX e xs))

set_option maxHeartbeats 2000000 in
set_option maxRecDepth 100000 in
theorem insert_leaf {K F : Nat → Prop} {w : World} {b : Nat} {xs : List EV} {v : Value} {e : EV} (hl : Leaf K w b F xs v) (hK : ∀ k, K k → ¬ F k ∧ k < w.heap.size) (he : Keyd w K e) (hs : Rising (ents xs)) (hn : xs.length ≤ 50000) :
    Calls Try.prog 28 #[ptrV b, entV e.e e.A e.c] w (InsPost K 0 w b F xs e) := by
  obtain ⟨A, c, hv, hc, hcm, hrd⟩ := own_form hl.row
  have hq0 : Quiet w (w.alloc (.cells #[.slice e.A e.e.key.length e.c, .int .i64 e.e.pg, .int .i64 e.e.sl] 34)) := (Only.refl _ _).alloc _
  have HQ0 := Lib.hid hq0
  have hbox1 := hq0.get hl.box (fun x => x)
  have HLF := Lib.hid (leaf_any b v none 0 0 _ hbox1)
  have b0 : (w.alloc (.cells #[.slice e.A e.e.key.length e.c, .int .i64 e.e.pg, .int .i64 e.e.sl] 34)).cell? ⟨b, 0, none⟩ = some (.slice A xs.length c) := by rw [cell_of hbox1, ← hv]; rfl
  obtain ⟨t0, t1, t2⟩ := ent_cells (alloc_new w (.cells #[.slice e.A e.e.key.length e.c, .int .i64 e.e.pg, .int .i64 e.e.sl] 34))
  have HS := Lib.hid (search_any xs e A c _ K K _ (hrd.kept hq0.drew (fun _ _ x => x)) (fun x hx => (hl.key x hx).quietly hq0.drew) (he.quietly hq0.drew) hs (by omega))
  have hpl : posE e.e (ents xs) ≤ xs.length := by have := posE_le e.e (ents xs); simpa using this
  have HL := Lib.hid hl
  have HK := Lib.hid hK
  have HE := Lib.hid he
  have HV := Lib.hid hv
  have HBX := Lib.hid hbox1
  clear hl hK he hs hrd hq0 hbox1 hv
  by_cases hm : e.e ∈ ents xs
  · rw [decide_eq_true hm] at HS
    have HM := Lib.hid hm
    clear hm
    generalize posE e.e (ents xs) = p at HS hpl
    go_enter Try.func28, Try.ntmps28
    go_wp2_with fail
    refine HLF.out.mono ?_
    rintro r w1 ⟨rfl, rfl⟩
    go_wp2_with fail
    go_region_held3 (fun w' => w'.cell? ⟨b, 0, none⟩ = some (.slice A xs.length c) ∧ w'.cell? ⟨w.heap.size, 0, none⟩ = some (.slice e.A e.e.key.length e.c) ∧ w'.cell? ⟨w.heap.size, 1, none⟩ = some (.int .i64 e.e.pg) ∧ w'.cell? ⟨w.heap.size, 2, none⟩ = some (.int .i64 e.e.sl))
      (first | go_keep | fail)
      (first
        | (go_at_call 36; go_must (refine HS.out.mono ?_; rintro r w2 ⟨rfl, hq2⟩; have k0 := hq2.cell b0 (fun x => x); have k1 := hq2.cell t0 (fun x => x); have k2 := hq2.cell t1 (fun x => x); have k3 := hq2.cell t2 (fun x => x)))
        | fail)
    have HQ2 := Lib.hid (HQ0.out.drew.trans hq2)
    clear hq2 k0 k1 k2 k3 b0 t0 t1 t2 HS HQ0 HLF
    go_wp2
    go_ret
    refine Or.inl ⟨HM.out, rfl, HQ2.out.mono (fun _ _ x => x.elim), ?_⟩
    exact (NodeAt.kept (K := K) (h := 0) HQ2.out (fun _ _ x => x) ⟨v, HL.out⟩ (fun _ _ x => x)).mono (fun _ x => Or.inl x)
  · rw [decide_eq_false hm] at HS
    have HM := Lib.hid hm
    clear hm
    obtain ⟨p, hp⟩ : ∃ p, posE e.e (ents xs) = p := ⟨_, rfl⟩
    have HP := Lib.hid hp
    rw [hp] at HS hpl
    clear hp
    go_enter Try.func28, Try.ntmps28
    go_wp2_with fail
    refine HLF.out.mono ?_
    rintro r w1 ⟨rfl, rfl⟩
    go_wp2_with fail
    go_region_held3 (fun w' => w'.cell? ⟨b, 0, none⟩ = some (.slice A xs.length c) ∧ w'.cell? ⟨w.heap.size, 0, none⟩ = some (.slice e.A e.e.key.length e.c) ∧ w'.cell? ⟨w.heap.size, 1, none⟩ = some (.int .i64 e.e.pg) ∧ w'.cell? ⟨w.heap.size, 2, none⟩ = some (.int .i64 e.e.sl))
      (first | go_keep | fail)
      (first
        | (go_at_call 36; go_must (refine HS.out.mono ?_; rintro r w2 ⟨rfl, hq2⟩; have k0 := hq2.cell b0 (fun x => x); have k1 := hq2.cell t0 (fun x => x); have k2 := hq2.cell t1 (fun x => x); have k3 := hq2.cell t2 (fun x => x)))
        | fail)
    have HQ2 := Lib.hid (HQ0.out.drew.trans hq2)
    have HB2 := Lib.hid (hq2.get HBX.out (fun x => x))
    clear hq2 b0 t0 t1 t2 HS HQ0 HLF HBX
    go_upto_region 5 with fail
    have hw2 : w.heap.size < w2.heap.size := cell_lt k1
    have hvb : Hid (∀ j, v.ownBlock = some j → j ≠ b) := fun j e => by
      obtain ⟨c, hc⟩ := own_blk HL.out.row e
      exact ne_type hc HL.out.box (by decide)
    have hvl : Hid (∀ j, v.ownBlock = some j → j < w.heap.size) := fun j e => (HL.out.row.lt j e).2
    go_cut [] (fun wx => ∃ v5, Only F w wx ∧ Leaf K wx b (fun k => F k ∨ w.heap.size ≤ k) (insX e xs) v5)
    case first =>
      have k0a : (w2.alloc (.cells #[.slice e.A e.e.key.length e.c, .int .i64 e.e.pg, .int .i64 e.e.sl] 34)).cell? ⟨b, 0, none⟩ = some (.slice A xs.length c) := ((Only.refl (fun _ => False) w2).alloc _).cell k0 (fun x => x)
      go_region_law (first
        | (go_simp; go_at_call 40; refine (insertE_any _ xs.length p w2.heap.size (rowV xs) e.cells _ (by rw [← HV.out]; exact owns_kept (owns_kept HL.out.row HQ2.out (fun _ _ x => x)) (((Only.refl (fun _ => False) w2).alloc _).drew) (fun _ _ x => x)) rfl (by exact alloc_new w2 _) (one_row [e]) (one_row xs) (by omega) hpl (by rw [← HV.out]; exact fun x => by have := hvl.out _ x; omega)).mono ?_; rintro r w5 ⟨v5, rfl, hg5⟩; have hb5 : w5.heap[b]? = some (.cells #[v, .slice none 0 0] 62 (0, 0)) := hg5.only.get (by exact alloc_old HB2.out _) (fun x => hvb.out b (by rw [HV.out]; exact x) rfl); obtain ⟨A5, c5, hv5, _, _, _⟩ := own_form hg5.own; subst hv5; have s1 : w5.cell? ⟨b, 0, none⟩ = some v := (by rw [cell_of hb5]; rfl); have s2 := fun o => frozen_of hb5 o)
        | fail)
      all_goals
        go_wp2_with fail
        go_meet
        have hr := leaf_ins (e := e) HL.out HK.out HE.out (HQ2.out.alloc (.cells #[.slice e.A e.e.key.length e.c, .int .i64 e.e.pg, .int .i64 e.e.sl] 34)).drew (by rw [HP.out, HV.out]; exact hg5)
        exact ⟨_, hr.1, hr.2⟩
    case rest =>
      obtain ⟨v5, ho5, hl5⟩ := hcut
      have HR : Hid (InsPost K 0 w b F xs e (.returned (.bool true)) wc) := Or.inr ⟨HM.out, rfl, ho5, v5, hl5⟩
      clear ho5 hl5
      go_wp2
      go_ret
      exact HR.out

end Go.Proofs.Ytbeenpobppkhdaa
