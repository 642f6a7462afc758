/- The contract of page.move. No condition. -/
import Derived.Test.YtbibmgcklilpmaaPageFree
namespace Go.Proofs.Ytbibmgcklilpmaa
open Go.RowKit Go.Lap

theorem info_page : (Try.prog.info? 139).map (·.size) = some 512 := by kernel_rfl

theorem one_tab (N : Nat) (g : Nat → Nat) : (tab N (byteF g)).all (·.oneCell') = true := by
  rw [Array.all_eq_true_iff_forall_mem]
  intro x hx
  obtain ⟨i, hi, rfl⟩ := Array.mem_iff_getElem.1 hx
  simp [tab, byteF, Value.oneCell']

/-- The whole page is read. -/
theorem load_page {w : World} {ops : Array Oper} {rest : List Oper} {o : Oper} {a : Act} {Q : Exit → Act → World → Prop} (hgd : o.guard = none) (x : Operand) (ho : o.op = .load 139 x)
    (b : Nat) (hx : a.eval x = .pointer (some ⟨b, 0, none⟩)) (g : Nat → Nat) (hb : Bk w b 512 pageT g)
    (h : wpList Try.prog ops Q rest (a.put o.dst (.agg (tab 512 (byteF g)))) w) : wpList Try.prog ops Q (o :: rest) a w :=
  wpList_load_row hgd 139 x ho b hx pageT _ (0, 0) _ hb Try.underlying139 rfl (by rw [tab_size]; exact info_page) h

/-- The whole page is written, into a block of its own. -/
theorem store_page {w : World} {ops : Array Oper} {rest : List Oper} {o : Oper} {a : Act} {Q : Exit → Act → World → Prop} (hgd : o.guard = none) (x y : Operand) (ho : o.op = .store 139 x y)
    (b : Nat) (hx : a.eval x = .pointer (some ⟨b, 0, none⟩)) (g g0 : Nat → Nat) (hy : a.eval y = .agg (tab 512 (byteF g))) (hb : Bk w b 512 pageT g0)
    (h : wpList Try.prog ops Q rest (a.put o.dst undef) (relaid w b 512 g)) : wpList Try.prog ops Q (o :: rest) a w :=
  wpList_store_row hgd 139 x y ho b _ hx hy pageT _ hb (by rw [tab_size]; exact info_page) (by simp [tab_size]) (one_tab _ _) h

/-- While pages are moved: the page, and the copy of what it was. -/
structure MovW (w wr : World) (b n i : Nat) (g0 : Nat → Nat) (L : List Slot) : Prop where
  only : Only (· = b) w wr
  old : Bk wr w.heap.size 512 pageT g0
  mv : ∃ g, Bk wr b 512 pageT g ∧ Mv g g0 n i (movTo (L.take i)).1 (movTo (L.take i)).2

theorem MovW.drewN {w wr : World} {b n i : Nat} {g0 : Nat → Nat} {L : List Slot} (h : MovW w wr b n i g0 L) (k : Nat) : MovW w (wr.drewN k) b n i g0 L := ⟨h.only.drewN k, h.old, h.mv⟩

theorem take_snoc {L : List Slot} {i : Nat} {s : Slot} (h : L[i]? = some s) : L.take (i + 1) = L.take i ++ [s] := by rw [List.take_add_one, h]; rfl

theorem mov_none {L : List Slot} {i : Nat} (h : L[i]? = some none) : (movTo (L.take (i + 1))).2 = (movTo (L.take i)).2 := by rw [take_snoc h, movTo_snoc]; rfl

theorem mov_some {L : List Slot} {i f : Nat} {t : Tup} (h : L[i]? = some (some (f, t))) : (movTo (L.take (i + 1))).2 = (movTo (L.take i)).2 - t.size := by rw [take_snoc h, movTo_snoc]; rfl

theorem movTo_at : ∀ (L : List Slot), (movTo L).2 = 512 - sumS L := by
  intro L
  induction hn : L.length generalizing L with
  | zero =>
    have : L = [] := List.eq_nil_of_length_eq_zero hn
    subst this
    rfl
  | succ n ih =>
    have hne : L ≠ [] := fun e => by subst e; simp at hn
    obtain ⟨M, s, rfl⟩ : ∃ M s, L = M ++ [s] := ⟨L.dropLast, L.getLast hne, (List.dropLast_concat_getLast hne).symm⟩
    have hM : M.length = n := by simpa using hn
    have := ih M hM
    rw [movTo_snoc, sumS_snoc]
    rcases s with _ | ⟨f, t⟩
    · show (movTo M).2 = _
      rw [this]; rfl
    · show (movTo M).2 - t.size = _
      rw [this]
      have : Slot.size (some (f, t)) = t.size := rfl
      omega

theorem sumS_take_le (L : List Slot) (i : Nat) : sumS (L.take i) ≤ sumS L := by
  conv => rhs; rw [← List.take_append_drop i L]
  unfold sumS
  rw [List.map_append, List.sum_append]
  omega

theorem mov_at {L : List Slot} {i f : Nat} {t : Tup} (h : L[i]? = some (some (f, t))) (hr : 4 + 4 * L.length + sumS L ≤ 512) : 4 + 4 * L.length + t.size ≤ (movTo (L.take i)).2 ∧ (movTo (L.take i)).2 ≤ 512 := by
  have h1 := sumS_take_le L (i + 1)
  rw [take_snoc h, sumS_snoc] at h1
  have : Slot.size (some (f, t)) = t.size := rfl
  rw [movTo_at]
  omega

theorem MovW.none {w wr : World} {b i st : Nat} {g0 : Nat → Nat} {L : List Slot} (h : MovW w wr b L.length i g0 L) (hp : Pg g0 L st) (hi : L[i]? = some Option.none) : MovW w wr b L.length (i + 1) g0 L := by
  obtain ⟨h1, h2, g, h3, h4⟩ := h
  refine ⟨h1, h2, g, h3, ?_⟩
  rw [take_snoc hi, movTo_snoc]
  have := hp.ptr i _ hi
  exact h4.none (List.getElem?_eq_some_iff.1 hi).1 this

theorem MovW.some {w wr w2 w3 : World} {b i f at_ st : Nat} {t : Tup} {g0 gc : Nat → Nat} {L : List Slot} (h : MovW w wr b L.length i g0 L) (hb : b < w.heap.size) (hp : Pg g0 L st) (hi : L[i]? = some (Option.some (f, t))) (ha : (movTo (L.take i)).2 = at_) (hr : 4 + 4 * L.length + sumS L ≤ 512)
    (hm : Mv gc g0 L.length i (movTo (L.take i)).1 (movTo (L.take i)).2) (o1 : Only (· = b) wr w2) (o2 : Only (· = b) w2 w3) (hb3 : Bk w3 b 512 pageT (putN (putN (layF gc (at_ - t.size) t.size t.ver) (4 + 4 * i) 2 (at_ - t.size)) (4 + 4 * i + 2) 2 t.size)) :
    MovW w w3 b L.length (i + 1) g0 L := by
  subst ha
  have hat := mov_at hi hr
  refine ⟨h.only.trans (o1.trans o2), (h.old.kept o1 (fun e => by omega)).kept o2 (fun e => by omega), _, hb3, ?_⟩
  rw [take_snoc hi, movTo_snoc]
  have := hm.some (List.getElem?_eq_some_iff.1 hi).1 (hp.ver i f t hi).2.2.1 hat.1
  unfold movG at this
  rw [show 6 + 4 * i = 4 + 4 * i + 2 by omega] at this
  exact this

set_option maxHeartbeats 1000000 in
set_option maxRecDepth 100000 in
theorem page_move (b st : Nat) (L : List Slot) (w : World) (h : PageAt w b L st) (hr : 4 + 4 * L.length + sumS L ≤ 512) (hl : L.length ≤ 126) :
    Calls Try.prog 80 #[.pointer (some ⟨b, 0, none⟩)] w fun e w' => e = .returned (.tuple #[]) ∧ Only (· = b) w w' ∧ PageAt w' b (movTo L).1 (movTo L).2 := by
  obtain ⟨g, hg, hp⟩ := h
  have heq := fun (w : World) (a : Option Addr) (n c : Nat) => Lib.run_eql_slice_nil (P := Try.prog) w 48 _ a n c 0 0 Try.underlying48
  have hbl := hg.lt
  have HG := Lib.hid hg
  have HP := Lib.hid hp
  clear hg hp
  go_enter Try.func80, Try.ntmps80
  go_wp2_with (first
    | (with_reducible refine load_page rfl (.tmp 7) rfl b rfl g HG.out ?_)
    | (with_reducible refine store_page rfl (.tmp 2) (.tmp 8) rfl w.heap.size rfl g (fun _ => 0) rfl (by unfold Bk; rw [alloc_new, zero_page]) ?_)
    | fail)
  have HW0 : Hid (Quiet w (relaid (w.alloc (.cells Try.zeroCells139 139)) w.heap.size 512 g) ∧ Bk (relaid (w.alloc (.cells Try.zeroCells139 139)) w.heap.size 512 g) w.heap.size 512 pageT g ∧ Bk (relaid (w.alloc (.cells Try.zeroCells139 139)) w.heap.size 512 g) b 512 pageT g) := by
    have o1 : Only (· = w.heap.size) (w.alloc (.cells Try.zeroCells139 139)) _ := relaid_only (w.alloc (.cells Try.zeroCells139 139)) w.heap.size 512 g
    exact ⟨((Only.refl _ _).alloc _).trans' o1 (fun k hk e => by omega), relaid_bk (g := fun _ => 0) (by unfold Bk; rw [alloc_new, zero_page]) _, Bk.kept (alloc_old HG.out _) o1 (fun e => by omega)⟩
  generalize relaid (w.alloc (.cells Try.zeroCells139 139)) w.heap.size 512 g = W0 at HW0 ⊢
  obtain ⟨hq0, hold0, hpg0⟩ := HW0.out
  have HQ0 := Lib.hid hq0
  have HOLD0 := Lib.hid hold0
  have HPG0 := Lib.hid hpg0
  clear hq0 hold0 hpg0 HW0
  have hsl := fun W => page_from b (4 + 4 * L.length) _ (wrap_ptr L.length (by omega)) (by omega) W
  have hclr := fun ty => clear_run W0.drew b 512 (4 + 4 * L.length) (512 - (4 + 4 * L.length)) (512 - (4 + 4 * L.length)) pageT g HPG0.out (by omega) ty
  go_region_held3 (fun _ => True) (trivial)
    (first | (go_at_call 78; go_must (refine (page_count b st L _ ⟨g, by exact HPG0.out, HP.out⟩).mono ?_; rintro e w4 ⟨rfl, rfl⟩)) | fail)
  have HS : Hid (MovW w (relaid W0.drew b 512 (layF g (4 + 4 * L.length) (512 - (4 + 4 * L.length)) (fun _ => 0))) b L.length 0 g L) := by
    have o1 := relaid_only W0.drew b 512 (layF g (4 + 4 * L.length) (512 - (4 + 4 * L.length)) (fun _ => 0))
    exact ⟨(HQ0.out.drew.mono (fun _ _ x => x.elim)).trans o1, Bk.kept (w := W0.drew) HOLD0.out o1 (fun e => by omega), _, relaid_bk (by exact HPG0.out) _, Mv.start HP.out.lt (by omega)⟩
  generalize relaid W0.drew b 512 (layF g (4 + 4 * L.length) (512 - (4 + 4 * L.length)) (fun _ => 0)) = W1 at HS ⊢
  clear hsl hclr HQ0 HOLD0 HPG0 HG
  go_wp2_with fail
  refine (page_count _ st L _ ⟨g, HS.out.old, HP.out⟩).mono ?_
  rintro e w4 ⟨rfl, rfl⟩
  go_wp2_with fail
  go_loopw [3, 18] (fun a v wr => ∃ i : Nat, i ≤ L.length ∧ v = .int .i64 i ∧ a = .int .i64 (movTo (L.take i)).2 ∧ MovW w wr b L.length i g L) (fun _ v _ => L.length - (intOf v).toNat)
  case atStart => exact ⟨0, Nat.zero_le _, rfl, rfl, HS.out⟩
  case round =>
    obtain ⟨i, hi, rfl, rfl, hW⟩ := hrel
    have HW := Lib.hid hW
    clear hW HS
    by_cases hlt : i < L.length
    · rcases hs : L[i]? with _ | s
      · rw [List.getElem?_eq_getElem hlt] at hs; cases hs
      · have HE := Lib.hid hs
        clear hs
        rcases s with _ | ⟨f, t⟩
        · go_wp2_with fail
          refine (bytes_none _ st L _ _ ⟨g, HW.out.old, HP.out⟩ (by rw [slotAt_nat, HE.out]; rfl)).mono ?_
          rintro e w4 ⟨rfl, n2, rfl⟩
          go_wp2
          go_roundw
          case rel => exact ⟨i + 1, by omega, by go_num, by rw [mov_none HE.out], (HW.out.drewN _).none HP.out HE.out⟩
          case measure => simp [intOf]; omega
        · obtain ⟨v1, v2, v3, v4⟩ := HP.out.ver i f t HE.out
          have ha := mov_at HE.out hr
          have HV := Lib.hid v4
          have HV3 := Lib.hid v3
          have hts := Tup.size_pos t
          obtain ⟨A, HA⟩ : ∃ A, Hid ((movTo (L.take i)).2 = A) := ⟨_, rfl⟩
          rw [HA.out] at ha ⊢
          have HN := Lib.hid (mov_some HE.out)
          rw [HA.out] at HN
          obtain ⟨z, Hz⟩ : ∃ z, Hid (t.size = z) := ⟨_, rfl⟩
          have h63 : A ≤ 512 := ha.2
          have hz1 : 4 + 4 * L.length + z ≤ A := by rw [← Hz.out]; exact ha.1
          have hz2 : f + z ≤ 512 := by rw [← Hz.out]; exact v2
          have hz3 : 30 ≤ z := by rw [← Hz.out]; exact hts
          clear v3 v4 ha hts v2
          go_wp2_with fail
          refine (bytes_some _ st f t L _ _ ⟨g, HW.out.old, HP.out⟩ (by rw [slotAt_nat, HE.out]; rfl)).mono ?_
          rintro e w4 ⟨rfl, n2, rfl⟩
          rw [Hz.out]
          obtain ⟨gc, hgc, hmv⟩ := (HW.out.drewN n2).mv
          have HGC := Lib.hid hgc
          have HMV := Lib.hid hmv
          clear hgc hmv
          have hsl := fun W => page_from b (A - z) ((A : Int) - z) (by omega) (by omega) W
          have hcp := fun ty => copy_run (wr.drewN n2) b 512 (A - z) (512 - (A - z)) (512 - (A - z)) pageT gc HGC.out w.heap.size f z (512 - f) t.ver (fun j hj => by rw [(HW.out.drewN n2).old.cell (by omega)]; rw [HV.out j (by rw [Hz.out]; exact hj)]) (by omega) (by omega) ty
          go_wp2_with fail
          rw [show ((A : Int) - (z : Int)) = ((A - z : Nat) : Int) by omega]
          refine (point_any b i (A - z) z _ _ (relaid_bk (by exact HGC.out) _) (by omega) (by omega) (by omega)).mono ?_
          rintro e w5 ⟨rfl, ho, hb⟩
          have HX : Hid (MovW w w5 b L.length (i + 1) g L) := (HW.out.drewN n2).some hbl HP.out HE.out HA.out hr HMV.out (relaid_only _ _ _ _) ho (by rw [Hz.out]; exact hb)
          clear ho hb hcp hsl HGC HMV
          go_wp2
          go_roundw
          case rel => exact ⟨i + 1, by omega, by go_num, by rw [HN.out, Hz.out], HX.out⟩
          case measure => simp [intOf]; omega
    · obtain rfl : i = L.length := by omega
      obtain ⟨gc, hgc, hmv⟩ := HW.out.mv
      rw [List.take_length] at hmv
      have hat := movTo_at L
      have HGC := Lib.hid hgc
      have HMV := Lib.hid hmv
      have HC : Hid (leNum gc 0 2 = L.length) := by rw [leNum_congr (g' := g) _ _ (fun x h1 h2 => hmv.same x (by omega))]; exact HP.out.cnt
      rw [List.take_length]
      obtain ⟨A, HA⟩ : ∃ A, Hid ((movTo L).2 = A) := ⟨_, rfl⟩
      have hA : A ≤ 512 := by rw [← HA.out]; exact hmv.hi
      clear hgc hmv hat
      go_wp2_with fail
      refine (count_any b gc _ HGC.out HMV.out.lt).mono ?_
      rintro e w4 ⟨rfl, rfl⟩
      rw [HC.out, HA.out]
      go_wp2_with fail
      refine (pset_any b L.length A gc _ HGC.out (by omega) (by omega)).mono ?_
      rintro e w5 ⟨rfl, ho, hb⟩
      have HX : Hid (Only (· = b) w w5 ∧ PageAt w5 b (movTo L).1 (movTo L).2) := ⟨HW.out.only.trans ho, _, hb, by have := HMV.out.done; rw [HA.out] at this ⊢; exact this⟩
      clear ho hb
      go_wp2
      go_end0
      exact ⟨rfl, HX.out⟩

end Go.Proofs.Ytbibmgcklilpmaa
