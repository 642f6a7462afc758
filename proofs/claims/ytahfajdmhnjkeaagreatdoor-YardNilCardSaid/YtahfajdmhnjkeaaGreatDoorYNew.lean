/- yard.New. No condition. -/
import Derived.Test.YtahfajdmhnjkeaaGreatDoorYFew
import Derived.Test.YtahfajdmhnjkeaaGreatDoorSeatYc
import Derived.Test.YtahfajdmhnjkeaaGreatDoorLast
namespace Go.Proofs.YtahfajdmhnjkeaaGreatDoor
open Go.RowKit Go.Lap

theorem elem_anss : Elem Tryz.prog 50 40 1 24 := Elem.mk' (.slice none 0 0) Tryz.underlying50 (by kernel_rfl) rfl (by decide)

set_option maxRecDepth 100000 in
theorem make_anss (k : Nat) (hk : k ≤ 100000) (w : World) : (Instr.makeSlice 50 (.int .i64 (k : Int)) (.int .i64 (k : Int))).run Tryz.prog w = .ok (.slice (some ⟨w.heap.size, 0, none⟩) k k) (w.alloc (.cells (madeCells (Value.cells (.slice none 0 0)) k) 40)) := by
  obtain ⟨i, z, ht, hi, h0, h1, h2, h3, h4⟩ := elem_anss
  have hz : z = .slice none 0 0 := by
    have : (Tryz.prog.info? 40).map (fun i => i.zero) = some (some (.slice none 0 0)) := by kernel_rfl
    rw [hi] at this
    simp [h0] at this
    exact this
  subst hz
  have hr := run_make (P := Tryz.prog) w 50 40 i (.slice none 0 0) ht hi h0 .i64 .i64 k k (by omega) (by omega) (by rw [h2]; omega) (by omega)
  simp only [Int.toNat_natCast] at hr
  rw [hr, h1, Nat.mul_one]

theorem Glob.low {w : World} (h : Glob w) : 5 ≤ w.heap.size := by
  have := (h.bnd 4 ⟨4, 0, 0, 0⟩ (by rfl)).1
  simp only at this
  omega

/-- A yard in block yb, of whose sessions i are open: what is told of it lies in blocks that are new since w0. -/
def YardAt (w0 w : World) (i yb : Nat) (dv vo : Value) : Prop :=
  ∃ X vl xs, DeskX i X dv w ∧ (∀ b, X b → w0.heap.size ≤ b ∧ b < w.heap.size ∧ b ≠ yb ∧ vl.ownBlock ≠ some b) ∧ w.heap[yb]? = some (.cells #[dv, vl, vo] 52 (0, 0)) ∧ w.ownsRow 0 26 1 vl i xs ∧
    (∀ j, vl.ownBlock = some j → w0.heap.size ≤ j ∧ j ≠ yb) ∧ w0.heap.size ≤ yb ∧ Only (fun _ => False) w0 w

theorem yard_step {w0 w2 w3 w4 : World} {i yb : Nat} {dv vo vl v' u : Value} {X : Nat → Prop} {xs : List Value} (hG : 5 ≤ w0.heap.size) (hd : DeskX (i + 1) X dv w2) (hX : ∀ b, X b → w0.heap.size ≤ b ∧ b < w2.heap.size ∧ b ≠ yb ∧ vl.ownBlock ≠ some b)
    (hb : w2.heap[yb]? = some (.cells #[dv, vl, vo] 52 (0, 0))) (hn : ∀ j, vl.ownBlock = some j → w0.heap.size ≤ j ∧ j ≠ yb) (hy : w0.heap.size ≤ yb) (hq0 : Only (fun _ => False) w0 w2) (hq : Only (fun _ => False) w2 w3)
    (hg : Grew w3 w4 26 1 vl v' (i + 1) (xs ++ [u])) : YardAt w0 (w4.setCell ⟨yb, 1, none⟩ v') (i + 1) yb dv vo := by
  have z0 := hq0.size
  have z2 := hq.size
  have z3 := hg.only.size
  have hyb := lt_of_get hb
  have hn' : ∀ j, v'.ownBlock = some j → w0.heap.size ≤ j ∧ j ≠ yb := fun j e => by
    rcases hg.loc with y | y
    · rw [y] at e; exact hn j e
    · rw [y] at e; injection e with e; exact ⟨by omega, by omega⟩
  have ho5 : Only (fun k => vl.ownBlock = some k ∨ k = yb) w3 (w4.setCell ⟨yb, 1, none⟩ v') := (hg.only.mono (fun k _ e => .inl e)).setCell (fun _ => .inr rfl) _
  have hs5 : (w4.setCell ⟨yb, 1, none⟩ v').heap.size = w4.heap.size := by simp [World.setCell]
  refine ⟨X, v', xs ++ [u], ?_, fun b hbx => ?_, ?_, ?_, hn', hy, ?_⟩
  · refine (hd.kept hq (fun _ _ x => x)).kept ho5 (fun b hb e => ?_)
    rcases hb with hb | hb
    · rcases e with e | e
      · have := (hn b e).1; omega
      · omega
    · obtain ⟨_, _, h3, h4⟩ := hX b hb
      rcases e with e | e
      · exact h4 e
      · exact h3 e
  · obtain ⟨h1, h2, h3, h4⟩ := hX b hbx
    refine ⟨h1, by rw [hs5]; omega, h3, fun e => ?_⟩
    rcases hg.loc with y | y
    · rw [y] at e; exact h4 e
    · rw [y] at e; injection e with e; omega
  · have h4 := hg.only.get (hq.get hb (fun x => x)) (fun e => (hn _ e).2 rfl)
    exact set_same h4 1 v'
  · exact owns_kept hg.own ((Only.refl (fun k => k = yb) w4).setCell (fun _ => rfl) _) (fun k e x => (hn' k e).2 x)
  · refine (hq0.trans hq).trans' ho5 (fun k hk e => ?_)
    rcases e with e | e
    · have := (hn k e).1; omega
    · omega

/-- What New leaves. -/
def YNewPost (w : World) (pages : Int) (n : Nat) (e : Ending) (w' : World) : Prop :=
  Only (fun _ => False) w w' ∧ ((6 < n ∧ e = .returned (.tuple #[.pointer none, .int .i64 2])) ∨ (n ≤ 6 ∧ (pages < 0 ∨ 256 < pages) ∧ e = .returned (.tuple #[.pointer none, .int .i64 1])) ∨
    (n ≤ 6 ∧ 0 ≤ pages ∧ pages ≤ 256 ∧ ∃ yb dv vl ob, e = .returned (.tuple #[.pointer (some ⟨yb, 0, none⟩), .int .i64 0]) ∧ w'.heap[yb]? = some (.cells #[dv, vl, .slice (some ⟨ob, 0, none⟩) n n] 52 (0, 0))))

set_option maxHeartbeats 4000000 in
set_option maxRecDepth 100000 in
theorem yard_new (A : Option Addr) (n cap : Nat) (pages : Int) (w : World) (hG : Glob w) (h : Lists w A n 3) (hn : n ≤ cap) (hcap : cap ≤ maxLen) (hn9 : n ≤ 9) :
    Calls Tryz.prog 12 #[.int .i64 pages, .slice A n cap] w (YNewPost w pages n) := by
  unfold maxLen at hcap
  obtain ⟨POST, hPOST⟩ : ∃ POST, YNewPost w pages n = POST := ⟨_, rfl⟩
  rw [hPOST]
  have HPOST := Lib.hid hPOST
  have H := Lib.hid h
  have HG := Lib.hid hG
  clear h hG hPOST
  by_cases h6 : 6 < n
  · have HE : Hid (POST (.returned (.tuple #[.pointer none, .int .i64 2])) w) := by
      rw [← HPOST.out]
      exact ⟨Only.refl _ _, .inl ⟨h6, rfl⟩⟩
    go_enter Tryz.func12, Tryz.ntmps12
    go_wp2_with fail
    exact HE.out
  by_cases hp : pages < 0 ∨ 256 < pages
  · have HN := Lib.hid (new_bad HG.out pages hp)
    have HP := Lib.hid hp
    clear hp
    go_enter Tryz.func12, Tryz.ntmps12
    go_wp2_with fail
    refine HN.out.mono ?_
    rintro e w1 ⟨rfl, hq1⟩
    have HE : Hid (POST (.returned (.tuple #[.pointer none, .int .i64 1])) w1) := by
      rw [← HPOST.out]
      exact ⟨hq1, .inr (.inl ⟨by omega, HP.out, rfl⟩)⟩
    clear hq1
    go_wp2_with fail
    exact HE.out
  have h0 : 0 ≤ pages := by omega
  have h1 : pages ≤ 256 := by omega
  have HN := Lib.hid (new_any HG.out pages h0 h1)
  have hmk := fun W => make_anss n (by omega) W
  clear hp
  go_enter Tryz.func12, Tryz.ntmps12
  go_wp2_with fail
  refine HN.out.mono ?_
  rintro e w1 ⟨dv, rfl, hd1, hq1⟩
  obtain ⟨pd, rfl⟩ := hd1.ptr
  have HY1 : Hid (YardAt w ((w1.alloc (.cells (madeCells (Value.cells (.slice none 0 0)) n) 40)).alloc (.cells #[.pointer (some pd), .slice none 0 0, .slice (some ⟨w1.heap.size, 0, none⟩) n n] 52)) 0 (w1.heap.size + 1) (.pointer (some pd)) (.slice (some ⟨w1.heap.size, 0, none⟩) n n)) := by
    have z1 := hq1.size
    have hq2 : Only (fun _ => False) w1 ((w1.alloc (.cells (madeCells (Value.cells (.slice none 0 0)) n) 40)).alloc (.cells #[.pointer (some pd), .slice none 0 0, .slice (some ⟨w1.heap.size, 0, none⟩) n n] 52)) := ((Only.refl _ _).alloc _).alloc _
    refine ⟨_, .slice none 0 0, [], hd1.kept hq2 (fun _ _ x => x), fun b hb => ⟨hb.1, ?_, by omega, by simp [Value.ownBlock]⟩, ?_, World.ownsRow_nil _ _ _ _, (fun j e => by cases e), by omega, hq1.trans hq2⟩
    · simp only [World.size_alloc]; omega
    · have := alloc_new (w1.alloc (.cells (madeCells (Value.cells (.slice none 0 0)) n) 40)) (.cells #[.pointer (some pd), .slice none 0 0, .slice (some ⟨w1.heap.size, 0, none⟩) n n] 52)
      rw [World.size_alloc] at this
      exact this
  clear hd1 hq1 HN
  have hw11 : w1.heap.size + 1 ≠ w1.heap.size := by omega
  go_wp2_with fail
  generalize w1.heap.size + 1 = yb at *
  generalize hvo : (Value.slice (some ⟨w1.heap.size, 0, none⟩) n n) = vo at *
  have HVO := Lib.hid hvo
  clear hvo hw11 hmk
  go_loopw [30] (fun i wr => ∃ k : Nat, k ≤ n ∧ i = .int .i64 (k : Int) ∧ YardAt w wr k yb (.pointer (some pd)) vo) (fun i _ => n - (intOf i).toNat)
  case atStart => exact ⟨0, Nat.zero_le _, rfl, HY1.out⟩
  case round =>
    obtain ⟨k, hk, rfl, hY⟩ := hrel
    obtain ⟨X, vl, xs, hd, hX, hb, ho, hn2, hy, hq⟩ := hY
    by_cases hlt : k < n
    · obtain ⟨b, off, A', n', c', ys, rfl, hcell0, hrd, hnc, hcm, hys, hn3⟩ := H.out k hlt
      have hcell := hq.cell hcell0 (fun x => x)
      have HD := Lib.hid hd
      have HXX := Lib.hid hX
      have HBW := Lib.hid hb
      have HOW := Lib.hid ho
      have HVN := Lib.hid hn2
      have HYB := Lib.hid hy
      have HQR := Lib.hid hq
      have HRD := Lib.hid hrd
      have lb := cell_lt hcell
      dsimp only at lb
      unfold maxLen at hcm
      clear hd hX hb ho hn2 hy hq hrd hys HY1 hcell0
      go_wp2_with fail
      refine (open_any (by omega) HD.out).mono ?_
      rintro e w2 ⟨⟨nn, rfl⟩, hd2, ho2⟩
      have HDK := Lib.hid hd2
      have HX2 : Hid (∀ b, (X b ∨ wr.heap.size ≤ b ∧ b < w2.heap.size) → w.heap.size ≤ b ∧ b < w2.heap.size ∧ b ≠ yb ∧ vl.ownBlock ≠ some b) := fun b hb => by
        have z2 := ho2.size
        have zr := HQR.out.size
        rcases hb with hb | hb
        · obtain ⟨h1, h2, h3, h4⟩ := HXX.out b hb
          exact ⟨h1, by omega, h3, h4⟩
        · refine ⟨by omega, hb.2, fun e => ?_, fun e => ?_⟩
          · have := lt_of_get HBW.out; omega
          · have := (HOW.out.lt b e).2; omega
      have HBX : Hid (w2.heap[yb]? = some (.cells #[.pointer (some pd), vl, vo] 52 (0, 0))) := ho2.get HBW.out (fun e => (HXX.out _ e).2.2.1 rfl)
      have HOWN := Lib.hid (owns_kept HOW.out ho2 (fun j e x => (HXX.out j x).2.2.2 e))
      have HQW : Hid (Only (fun _ => False) w w2) := HQR.out.trans' ho2 (fun j hj x => by have := (HXX.out j x).1; omega)
      have HCL : Hid (∀ W, Only (fun _ => False) w2 W → Calls Tryz.prog 18 #[.slice A' n' c'] W (fun e w' => (∃ A' n' c', e = .returned (.slice A' n' c')) ∧ Only (fun _ => False) W w')) := fun W hW =>
        clone_strs A' n' c' ys W (HRD.out.kept (HQW.out.trans hW) (fun _ _ x => x)) (by omega)
      have HS11 : Hid (∀ W, Only (fun _ => False) w2 W → (fun w' => w'.cell? ⟨yb, 1, none⟩ = some vl) W) := fun W hq => by
        have h1 := hq.get HBX.out (fun x => x)
        show W.cell? ⟨yb, 1, none⟩ = some vl
        rw [cell_of h1]; rfl
      have HONE : ∀ A3 n3 c3, Hid (∀ u ∈ [Value.slice A3 n3 c3], u.oneCell' = true) := fun A3 n3 c3 u hu => by rw [List.mem_singleton] at hu; subst hu; rfl
      clear hd2 ho2 HD HXX HBW HOW HQR hcell lb
      go_wp2_with fail
      refine wp_region_last (S := (fun w' => w'.cell? ⟨yb, 1, none⟩ = some vl)) (by kernel_rfl) (by kernel_rfl) (by simp) (HS11.out _ ((Only.refl _ _).drew)) (fun hHeld => ?_)
      simp only [List.pop_toArray, List.dropLast, List.size_toArray, List.length_cons, List.length_nil, Nat.reduceAdd, Nat.reduceSub]
      have q0 : Only (fun _ => False) w2 w2.drew := (Only.refl _ _).drew
      generalize w2.drew = d0 at q0 hHeld ⊢
      (refine wpAnyH_take (i := 0) (oi := ?_) (v := ?_) ?_ (by kernel_rfl) (by decide +kernel) (by decide +kernel) ?_ (Or.inl ⟨?_, ?_⟩) (by first | assumption | exact trivial) ?_; rotate_left 2; (focus (simp only [List.getElem?_toArray, List.getElem?_cons_zero, List.getElem?_cons_succ] <;> rfl)); (focus (exact fun _ _ _ => last_panic (fun h => h))); (focus rfl); (focus (intro w hSw; (try dsimp only at hSw); go_simp; (try with_reducible rfl); done)); (try simp only [Act.put, List.setIfInBounds_toArray, List.set_cons_zero, List.set_cons_succ]))
      (refine wpAnyH_take (i := 1) (oi := ?_) (v := ?_) ?_ (by kernel_rfl) (by decide +kernel) (by decide +kernel) ?_ (Or.inl ⟨?_, ?_⟩) (by first | assumption | exact trivial) ?_; rotate_left 2; (focus (simp only [List.getElem?_toArray, List.getElem?_cons_zero, List.getElem?_cons_succ] <;> rfl)); (focus (exact fun _ _ _ => last_panic (fun h => h))); (focus rfl); (focus (intro w hSw; (try dsimp only at hSw); go_simp; (try with_reducible rfl); done)); (try simp only [Act.put, List.setIfInBounds_toArray, List.set_cons_zero, List.set_cons_succ]))
      (refine wpAnyH_take (i := 2) (oi := ?_) (v := ?_) ?_ (by kernel_rfl) (by decide +kernel) (by decide +kernel) ?_ (Or.inl ⟨?_, ?_⟩) (by first | assumption | exact trivial) ?_; rotate_left 2; (focus (simp only [List.getElem?_toArray, List.getElem?_cons_zero, List.getElem?_cons_succ] <;> rfl)); (focus (exact fun _ _ _ => last_panic (fun h => h))); (focus rfl); (focus (intro w hSw; (try dsimp only at hSw); go_simp; (try with_reducible rfl); done)); (try simp only [Act.put, List.setIfInBounds_toArray, List.set_cons_zero, List.set_cons_succ]))
      (refine wpAnyH_take (i := 3) (oi := ?_) (v := ?_) ?_ (by kernel_rfl) (by decide +kernel) (by decide +kernel) ?_ (Or.inl ⟨?_, ?_⟩) (by first | assumption | exact trivial) ?_; rotate_left 2; (focus (simp only [List.getElem?_toArray, List.getElem?_cons_zero, List.getElem?_cons_succ] <;> rfl)); (focus (exact fun _ _ _ => last_panic (fun h => h))); (focus rfl); (focus (intro w hSw; (try dsimp only at hSw); go_simp; (try with_reducible rfl); done)); (try simp only [Act.put, List.setIfInBounds_toArray, List.set_cons_zero, List.set_cons_succ]))
      (refine wpAnyH_take (i := 4) (oi := ?_) (v := ?_) ?_ (by kernel_rfl) (by decide +kernel) (by decide +kernel) ?_ (Or.inl ⟨?_, ?_⟩) (by first | assumption | exact trivial) ?_; rotate_left 2; (focus (simp only [List.getElem?_toArray, List.getElem?_cons_zero, List.getElem?_cons_succ] <;> rfl)); (focus (exact fun _ _ _ => last_panic (fun h => h))); (focus rfl); (focus (intro w hSw; (try dsimp only at hSw); go_simp; (try with_reducible rfl); done)); (try simp only [Act.put, List.setIfInBounds_toArray, List.set_cons_zero, List.set_cons_succ]))
      (refine wpAnyH_take (i := 5) (oi := ?_) (v := ?_) ?_ (by kernel_rfl) (by decide +kernel) (by decide +kernel) ?_ (Or.inl ⟨?_, ?_⟩) (by first | assumption | exact trivial) ?_; rotate_left 2; (focus (simp only [List.getElem?_toArray, List.getElem?_cons_zero, List.getElem?_cons_succ] <;> rfl)); (focus (exact fun _ _ _ => last_panic (fun h => h))); (focus rfl); (focus (intro w hSw; (try dsimp only at hSw); go_simp; (try with_reducible rfl); done)); (try simp only [Act.put, List.setIfInBounds_toArray, List.set_cons_zero, List.set_cons_succ]))
      refine wpAnyH_ready (rs := [6]) (by kernel_rfl) (by simp) ?_
      refine AllReadyH.cons (o := ?_) ?_ ?_ AllReadyH.nil
      rotate_left 1
      (focus (simp only [List.getElem?_toArray, List.getElem?_cons_zero, List.getElem?_cons_succ] <;> rfl))
      intro K hK
      go_simp
      go_at_call 18
      refine (HCL.out d0 q0).mono ?_
      rintro e d1 ⟨⟨A3, n3, c3, rfl⟩, hq1⟩
      have q1 := q0.trans hq1
      dsimp only
      refine hK.out _ _ ?_ (fun hHeld => ?_)
      · exact HS11.out _ q1
      clear hK K
      (try simp only [Act.put, List.setIfInBounds_toArray, List.set_cons_zero, List.set_cons_succ])
      refine wpAnyH_ready (rs := [7]) (by kernel_rfl) (by simp) ?_
      refine AllReadyH.cons (o := ?_) ?_ ?_ AllReadyH.nil
      rotate_left 1
      (focus (simp only [List.getElem?_toArray, List.getElem?_cons_zero, List.getElem?_cons_succ] <;> rfl))
      intro K hK
      go_simp
      refine hK.out _ _ ?_ (fun hHeld => ?_)
      · exact HS11.out _ (q1.alloc _)
      clear hK K
      (try simp only [Act.put, List.setIfInBounds_toArray, List.set_cons_zero, List.set_cons_succ])
      have q2 : Only (fun _ => False) w2 (d1.alloc (.cells #[.slice A3 n3 c3] 26)) := q1.alloc _
      have hrd : Rd (d1.alloc (.cells #[.slice A3 n3 c3] 26)) (fun _ => True) 1 (some ⟨d1.heap.size, 0, none⟩) 1 [.slice A3 n3 c3] := Rd.new d1 1 1 [.slice A3 n3 c3] _ _ rfl trivial
      obtain ⟨bu, hbu⟩ : ∃ bu, d1.heap.size = bu := ⟨_, rfl⟩
      rw [hbu] at hrd
      (try rw [hbu])
      generalize d1.alloc (.cells #[.slice A3 n3 c3] 26) = d2 at *
      clear hbu
      have hown := owns_kept HOWN.out q2 (fun _ _ x => x)
      refine wpAnyH_ready (rs := [8]) (by kernel_rfl) (by simp) ?_
      refine AllReadyH.cons (o := ?_) ?_ ?_ AllReadyH.nil
      rotate_left 1
      (focus (simp only [List.getElem?_toArray, List.getElem?_cons_zero, List.getElem?_cons_succ] <;> rfl))
      intro K hK
      refine app_step elem_strs rfl (.tmp 40) (.tmp 43) rfl rfl hown rfl hrd (HONE A3 n3 c3).out (by unfold maxLen; omega) (by omega) ?_
      intro v3 d3 hg3
      obtain ⟨A4, c4, rfl, _⟩ := own_form (show World.ownsRow d3 0 26 1 v3 (k + 1) (xs ++ [.slice A3 n3 c3]) from hg3.own)
      have HST := Lib.hid (yard_step HG.out.low HDK.out HX2.out HBX.out HVN.out HYB.out HQW.out q2 hg3)
      refine hK.out _ _ ?_ (fun hHeld => ?_)
      · exact (hg3.only.cell (HS11.out _ q2) (fun e => (HVN.out _ e).2 rfl))
      clear hK K
      (try simp only [Act.put, List.setIfInBounds_toArray, List.set_cons_zero, List.set_cons_succ])
      (refine wpAnyH_take (i := 9) (oi := ?_) (v := ?_) ?_ (by kernel_rfl) (by decide +kernel) (by decide +kernel) ?_ (Or.inl ⟨?_, ?_⟩) (by first | assumption | exact trivial) ?_; rotate_left 2; (focus (simp only [List.getElem?_toArray, List.getElem?_cons_zero, List.getElem?_cons_succ] <;> rfl)); (focus (exact fun _ _ _ => last_panic (fun h => h))); (focus rfl); (focus (intro w hSw; (try dsimp only at hSw); go_simp; (try with_reducible rfl); done)); (try simp only [Act.put, List.setIfInBounds_toArray, List.set_cons_zero, List.set_cons_succ]))
      (refine wpAnyH_take (i := 10) (oi := ?_) (v := ?_) ?_ (by kernel_rfl) (by decide +kernel) (by decide +kernel) ?_ (Or.inl ⟨?_, ?_⟩) (by first | assumption | exact trivial) ?_; rotate_left 2; (focus (simp only [List.getElem?_toArray, List.getElem?_cons_zero, List.getElem?_cons_succ] <;> rfl)); (focus (exact fun _ _ _ => last_panic (fun h => h))); (focus rfl); (focus (intro w hSw; (try dsimp only at hSw); go_simp; (try with_reducible rfl); done)); (try simp only [Act.put, List.setIfInBounds_toArray, List.set_cons_zero, List.set_cons_succ]))
      refine wpAnyH_done (by kernel_rfl) ?_ _
      refine last_step (o := ?_) ?_ ?_
      rotate_left 1
      (focus (simp only [List.getElem?_toArray, List.getElem?_cons_zero, List.getElem?_cons_succ] <;> rfl))
      intro K hK
      have hb3 := hg3.only.get (q2.get HBX.out (fun x => x)) (fun e => (HVN.out _ e).2 rfl)
      have k1 := cell_of hb3 1
      have kf := fun o => frozen_of hb3 o
      simp only [List.getElem?_toArray, List.getElem?_cons_succ, List.getElem?_cons_zero] at k1
      go_simp
      refine hK.out _ _ ?_
      clear hK K
      (try dsimp only [Act.put])
      clear HCL HS11 HONE HDK HX2 HBX HOWN HQW hg3 hb3 k1 kf hown hrd q0 q1 q2 hq1 hHeld
      go_wp2_with fail
      go_roundw
      case rel => exact ⟨k + 1, by omega, by go_num, HST.out⟩
      case measure => simp [intOf]; omega
    · obtain rfl : k = n := by omega
      have HE : Hid (POST (.returned (.tuple #[.pointer (some ⟨yb, 0, none⟩), .int .i64 0])) wr) := by
        rw [← HPOST.out]
        exact ⟨hq, .inr (.inr ⟨by omega, h0, h1, yb, _, vl, _, rfl, by rw [HVO.out]; exact hb⟩)⟩
      clear hd hX hb ho hn2 hy hq
      go_wp2_with fail
      exact HE.out
end Go.Proofs.YtahfajdmhnjkeaaGreatDoor
