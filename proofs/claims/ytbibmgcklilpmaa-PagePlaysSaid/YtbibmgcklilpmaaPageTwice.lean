/- PageTwice: what a page tells is its own: written over it changes nothing. For every input. -/
import Derived.Test.YtbibmgcklilpmaaPageBuild
import Derived.Test.YtbibmgcklilpmaaPageLaw
namespace Go.Proofs.Ytbibmgcklilpmaa
open Go.RowKit Go.Lap

/-- 'p.b[:]'. -/
theorem page_all (b : Nat) (w : World) : (Instr.sliceAt 137 (.pointer (some ⟨b, 0, none⟩)) none none none).run Try.prog w = .ok (.slice (some ⟨b, 0, none⟩) 512 512) w := by
  rw [run_sliceAt_array_all w _ _ und512, size512]
  simp only [Result.andThen_ok, slicedAt, arr512, if_neg (show ¬ 512 = 0 by omega), Nat.zero_mul, add_none, Nat.sub_zero]

/-- A page's bytes, as a list. -/
def pgL (g : Nat → Nat) : List Nat := (List.range 512).map g
theorem pgL_len (g : Nat → Nat) : (pgL g).length = 512 := by simp [pgL]

theorem pgL_rd {w : World} {b : Nat} {g : Nat → Nat} (h : Bk w b 512 pageT g) : Rd w (· = b) 1 (some ⟨b, 0, none⟩) (pgL g).length (bytesV (pgL g)) := by
  refine ⟨by simp [bytesV], fun _ => ⟨b, 0, rfl, rfl, fun j u hu => ?_⟩⟩
  unfold bytesV pgL at hu
  rw [List.getElem?_map, List.getElem?_map] at hu
  rcases Nat.lt_or_ge j 512 with x | x
  · rw [List.getElem?_range x] at hu
    rw [Nat.zero_add, h.cell x]
    exact hu
  · rw [List.getElem?_eq_none (by simpa using x)] at hu
    cases hu

set_option maxHeartbeats 400000 in
set_option maxRecDepth 100000 in
theorem page_bytes (b : Nat) (g : Nat → Nat) (w : World) (h : Bk w b 512 pageT g) :
    Calls Try.prog 64 #[.pointer (some ⟨b, 0, none⟩)] w (FreshPost w (pgL g)) := by
  have hsl := fun W => page_all b W
  have HC := Lib.hid (clone_any (some ⟨b, 0, none⟩) 512 (pgL g) _ w (pgL_rd h) (by rw [pgL_len]; omega))
  rw [pgL_len] at HC
  clear h
  go_enter Try.func64, Try.ntmps64
  go_wp2_with fail
  refine HC.out.mono ?_
  rintro e w1 ⟨v, rfl, hf⟩
  have HF := Lib.hid hf
  clear hf
  go_wp2
  go_ret
  exact ⟨v, rfl, HF.out⟩

/-- In PageTwice: the page, and the bytes that were told first. -/
structure TwiceW (w wr : World) (pb : Nat) (g : Nat → Nat) (A : Option Addr) (c : Nat) : Prop where
  quiet : Quiet w wr
  bk : Bk wr pb 512 pageT g
  own : wr.ownsRow 0 5 1 (.slice A (pgL g).length c) (pgL g).length (bytesV (pgL g))

theorem TwiceW.on {U : Nat → Prop} {w wr wr' : World} {pb : Nat} {g : Nat → Nat} {A : Option Addr} {c : Nat} (h : TwiceW w wr pb g A c) (ho : Only U wr wr') (h1 : ¬ U pb) (h2 : ∀ k, (Value.slice A (pgL g).length c).ownBlock = some k → ¬ U k) (h3 : ∀ k, U k → w.heap.size ≤ k) : TwiceW w wr' pb g A c :=
  ⟨h.quiet.trans' ho (fun k hk x => by have := h3 k x; omega), ho.get h.bk h1, owns_kept h.own ho h2⟩

theorem TwiceW.quietly {w wr wr' : World} {pb : Nat} {g : Nat → Nat} {A : Option Addr} {c : Nat} (h : TwiceW w wr pb g A c) (hq : Quiet wr wr') : TwiceW w wr' pb g A c := h.on hq (fun x => x) (fun _ _ x => x) (fun _ x => x.elim)

set_option maxHeartbeats 8000000 in
set_option maxRecDepth 100000 in
theorem pageTwice_any (A : Option Addr) (n cap : Nat) (y : Int) (w : World) (h : OpsIn5 w w.heap.size A n) (hn : n ≤ cap) (hcap : cap ≤ maxLen) :
    Calls Try.prog 16 #[.slice A n cap, .int .u8 y] w fun e w' => e = .returned (.bool true) ∧ Below w.heap.size w w' := by
  have HI := Lib.hid h
  have HHN := Lib.hid hn
  have HHC := Lib.hid hcap
  clear h hn hcap
  go_enter Try.func16, Try.ntmps16
  go_wp2_with fail
  refine (awake5 w).mono ?_
  rintro e w1 ⟨rfl, hq1⟩
  have HQ1 := Lib.hid hq1
  clear hq1
  have HBD := Lib.hid (build_any A n cap w1 w.heap.size HQ1.out.size (HI.out.kept (onward (Below.refl _ _) (Nat.le_refl _) HQ1.out (fun _ x => x.elim))) HHN.out HHC.out)
  go_wp2_with fail
  refine HBD.out.mono ?_
  rintro e w2 ⟨pb, L, st, rfl, hq2, hp2, hn2⟩
  have HQ2 := Lib.hid (HQ1.out.trans hq2)
  have HPN : Hid (w.heap.size ≤ pb) := by have h1 := HQ1.out.size; show w.heap.size ≤ pb; omega
  obtain ⟨g, hg, hpg⟩ := hp2
  have HBK := Lib.hid hg
  have HPG := Lib.hid hpg
  have HGB : Hid (∀ x ∈ pgL g, x < 256) := fun x hx => by
    obtain ⟨i, _, rfl⟩ := List.mem_map.1 hx
    exact HPG.out.lt i
  clear hq2 hn2 hg hpg HBD HQ1
  go_wp2_with fail
  refine (page_bytes pb g w2 HBK.out).mono ?_
  rintro e w3 ⟨v3, rfl, hf3⟩
  obtain ⟨A3, c3, hv3, _, _, _⟩ := own_form hf3.own
  subst hv3
  have HF3 := Lib.hid hf3
  clear hf3
  have HCP := Lib.hid (copy_any A3 c3 (pgL g) _ w3 (own_rd HF3.out.own) (by rw [pgL_len]; omega))
  go_wp2_with fail
  refine HCP.out.mono ?_
  rintro e w4 ⟨v4, rfl, hf4⟩
  obtain ⟨A4, c4, hv4, _, _, _⟩ := own_form hf4.own
  subst hv4
  have HW4 : Hid (TwiceW w w4 pb g A4 c4) := ⟨(HQ2.out.trans HF3.out.quiet).trans hf4.quiet, hf4.quiet.get (HF3.out.quiet.get HBK.out (fun x => x)) (fun x => x), hf4.own⟩
  have HOW3 := Lib.hid (owns_kept HF3.out.own hf4.quiet (fun _ _ x => x))
  have HN3 : Hid (∀ k, (Value.slice A3 (pgL g).length c3).ownBlock = some k → w2.heap.size ≤ k ∧ k < w3.heap.size) := fun k e => ⟨HF3.out.new k e, (HF3.out.own.lt k e).2⟩
  have HN4 : Hid (∀ k, (Value.slice A4 (pgL g).length c4).ownBlock = some k → w3.heap.size ≤ k ∧ k < w4.heap.size) := fun k e => ⟨hf4.new k e, (hf4.own.lt k e).2⟩
  have HPB : Hid (pb < w2.heap.size) := lt_of_get HBK.out
  have HZ2 : Hid (w.heap.size ≤ w2.heap.size) := HQ2.out.size
  obtain ⟨m, hm⟩ : ∃ m, (pgL g).length = m := ⟨_, rfl⟩
  have HM := Lib.hid hm
  have hm5 : m ≤ 512 := by rw [← hm, pgL_len]; exact Nat.le_refl _
  rw [hm] at HOW3 HN3 HN4 ⊢
  clear hf4 HF3 HCP hm HBK HQ2
  go_wp2_with fail
  go_loopw [23, 8] (fun cq _ wr' => ∃ (q : Nat) (xs : List Value), q ≤ m ∧ cq = .int .i64 (q : Int) ∧ (∀ x ∈ xs, ∃ z : Int, x = .int .u8 z) ∧ wr'.ownsRow 0 5 1 (.slice A3 m c3) m xs ∧ Only (fun k => (Value.slice A3 m c3).ownBlock = some k) w4 wr') (fun cq _ _ => m - (intOf cq).toNat)
  case atStart => exact ⟨0, bytesV (pgL g), Nat.zero_le _, rfl, (fun x hx => by obtain ⟨z, _, rfl⟩ := List.mem_map.1 hx; exact ⟨z, rfl⟩), HOW3.out, Only.refl _ _⟩
  case round =>
    obtain ⟨qq, ys, hq, rfl, hxs, hown, hon⟩ := hrel
    have HXS := Lib.hid hxs
    have HOWN := Lib.hid hown
    have HON := Lib.hid hon
    clear hxs hon
    by_cases hqk : qq < m
    · rcases owns_cases hown with ⟨_, z⟩ | ⟨g3, cp, hv, _, _⟩
      · omega
      · injection hv with e1 _ e3
        subst e1 e3
        obtain ⟨x, hx⟩ : ∃ x, ys[qq]? = some x := ⟨_, List.getElem?_eq_getElem (by have := hown.1; omega)⟩
        obtain ⟨zv, rfl⟩ := HXS.out x (List.mem_of_getElem? hx)
        have r0 : wr.cell? ⟨g3, qq, none⟩ = some (.int .u8 zv) := by
          have := hown.cells rfl qq _ hx
          rw [add_none, Nat.zero_add] at this
          exact this
        have rf : wr.frozen? ⟨g3, qq, none⟩ = false := by
          obtain ⟨z, hz⟩ := own_blk hown (k := g3) rfl
          exact frozen_of hz qq
        have e2 : (0 : Int) ≤ (qq : Int) := by omega
        have e3 : (qq : Int) < (m : Int) := by omega
        clear hown hx
        go_wp2_with fail
        go_roundw
        case rel => exact ⟨qq + 1, ys.set qq (.int .u8 (bits BinOp.xor IntKind.u8 zv y)), by omega, by go_num, (fun x hx => by
          rcases List.mem_or_eq_of_mem_set hx with y | y
          · exact HXS.out x y
          · exact ⟨_, y⟩), own_putB HOWN.out hqk _, HON.out.setCell (p := ⟨g3, qq, none⟩) (fun _ => rfl) _⟩
        case measure => simp [intOf]; omega
    · have HW5 : Hid (TwiceW w wr pb g A4 c4) := HW4.out.on HON.out (fun e => by have h1 := (HN3.out pb e).1; have h2 := HPB.out; omega) (fun k e x => by rw [HM.out] at e; have h1 := (HN3.out k x).2; have h2 := (HN4.out k e).1; omega) (fun k x => by have h1 := (HN3.out k x).1; have h2 := HZ2.out; omega)
      clear hown
      have HPS := Lib.hid (page_slots pb st L wr ⟨g, HW5.out.bk, HPG.out⟩)
      go_wp2_with fail
      refine HPS.out.mono ?_
      rintro e w6 ⟨rfl, rfl⟩
      have hlen : L.length ≤ 127 := PageAt.len (w := wr) (b := pb) ⟨g, HW5.out.bk, HPG.out⟩
      clear HPS
      go_wp2_with fail
      go_loopw [36, 9, 10, 11, 12] (fun cq _ _ _ _ wr => ∃ q : Nat, q ≤ L.length ∧ cq = .int .i64 (q : Int) ∧ TwiceW w wr pb g A4 c4) (fun cq _ _ _ _ _ => L.length - (intOf cq).toNat)
      case atStart => exact ⟨0, Nat.zero_le _, rfl, HW5.out⟩
      case round =>
        obtain ⟨q, hq, rfl, hW⟩ := hrel
        have HW := Lib.hid hW
        clear hW
        by_cases hlt : q < L.length
        · rcases hs : slotAt L (q : Int) with _ | ⟨f, t⟩
          · have HG := Lib.hid (page_get_none pb st L (q : Int) wr ⟨g, HW.out.bk, HPG.out⟩ hs)
            clear hs
            go_wp2_with fail
            refine HG.out.mono ?_
            rintro e w7 ⟨rfl, hq7⟩
            have HW7 := Lib.hid ((HW.out.quietly hq7).quietly ((Only.refl (fun _ => False) w7).alloc (.cells #[.int .u64 0, .int .u64 0, .int .u64 0, .int .i64 0, .int .i64 0, .slice none 0 0] 54)))
            clear hq7 HG HW
            go_wp2
            go_roundw
            case rel => exact ⟨q + 1, by omega, by go_num, HW7.out⟩
            case measure => simp [intOf]; omega
          · have HG := Lib.hid (page_get_some pb st f t L (q : Int) wr ⟨g, HW.out.bk, HPG.out⟩ hs)
            have hdl : t.data.length ≤ 200 := by
              obtain ⟨kk, _, _, hs2⟩ := slotAt_some hs
              have := (HPG.out.ver kk f t hs2).2.2.1
              exact (of_decide_eq_true this.right).2.2.2.2
            clear hs
            go_wp2_with fail
            refine HG.out.mono ?_
            rintro e w7 ⟨A7, c7, rfl, hf7⟩
            unfold tupV
            have hq8 : Quiet wr (w7.alloc (.cells #[.int .u64 (t.row : Int), .int .u64 (t.xmin : Int), .int .u64 (t.xmax : Int), .int .i64 t.pg, .int .i64 t.sl, .slice A7 t.data.length c7] 54)) := hf7.quiet.alloc _
            have HW8 := Lib.hid (HW.out.quietly hq8)
            have HB8 := Lib.hid (alloc_new w7 (.cells #[.int .u64 (t.row : Int), .int .u64 (t.xmin : Int), .int .u64 (t.xmax : Int), .int .i64 t.pg, .int .i64 t.sl, .slice A7 t.data.length c7] 54))
            have HO8 := Lib.hid (owns_kept hf7.own ((Only.refl (fun _ => False) w7).alloc (.cells #[.int .u64 (t.row : Int), .int .u64 (t.xmin : Int), .int .u64 (t.xmax : Int), .int .i64 t.pg, .int .i64 t.sl, .slice A7 t.data.length c7] 54)) (fun _ _ x => x))
            have HN8 : Hid (∀ k, (Value.slice A7 t.data.length c7).ownBlock = some k → pb < k ∧ w.heap.size ≤ k ∧ ∀ j, (Value.slice A4 (pgL g).length c4).ownBlock = some j → j < k) := fun k e => by
              have h1 := hf7.new k e
              have h2 := lt_of_get HW.out.bk
              have h3 := HW.out.quiet.size
              exact ⟨by omega, by omega, fun j ej => by have := (HW.out.own.lt j ej).2; omega⟩
            clear hf7 hq8 HG HW
            go_upto_region 16 with fail
            generalize w7.alloc (.cells #[.int .u64 (t.row : Int), .int .u64 (t.xmin : Int), .int .u64 (t.xmax : Int), .int .i64 t.pg, .int .i64 t.sl, .slice A7 t.data.length c7] 54) = w8 at HW8 HB8 HO8 ⊢
            generalize w7.heap.size = b8 at HB8 ⊢
            obtain ⟨_, _, _, _, _, y5⟩ := box_cells HB8.out
            have HNB : Hid (∀ k, (Value.slice A7 t.data.length c7).ownBlock = some k → k ≠ b8) := fun k e => by
              obtain ⟨z, hz⟩ := own_blk HO8.out e
              exact ne_type hz HB8.out (by decide)
            obtain ⟨m7, hm7⟩ : ∃ m7, t.data.length = m7 := ⟨_, rfl⟩
            have HOW := Lib.hid HO8.out
            rw [hm7] at HOW HNB HN8 y5 hdl
            clear hm7
            go_wp2_with fail
            go_loopw [49, 12] (fun cq _ wr' => ∃ (q : Nat) (xs : List Value), q ≤ m7 ∧ cq = .int .i64 (q : Int) ∧ (∀ x ∈ xs, ∃ z : Int, x = .int .u8 z) ∧ wr'.ownsRow 0 5 1 (.slice A7 m7 c7) m7 xs ∧ Only (fun k => (Value.slice A7 m7 c7).ownBlock = some k) w8 wr') (fun cq _ _ => m7 - (intOf cq).toNat)
            case atStart => exact ⟨0, bytesV t.data, Nat.zero_le _, rfl, (fun x hx => by obtain ⟨z, _, rfl⟩ := List.mem_map.1 hx; exact ⟨z, rfl⟩), HOW.out, Only.refl _ _⟩
            case round =>
              obtain ⟨qq, ys, hqq, rfl, hxs, hown, hon⟩ := hrel
              have HXS := Lib.hid hxs
              have HOWN := Lib.hid hown
              have HON := Lib.hid hon
              have z0 : wr.cell? ⟨b8, 5, none⟩ = some (.slice A7 m7 c7) := hon.cell y5 (fun e => HNB.out b8 e rfl)
              clear hxs hon
              by_cases hqk : qq < m7
              · rcases owns_cases hown with ⟨_, z⟩ | ⟨g3, cp, hv, _, _⟩
                · omega
                · injection hv with e1 _ e3
                  subst e1 e3
                  obtain ⟨x, hx⟩ : ∃ x, ys[qq]? = some x := ⟨_, List.getElem?_eq_getElem (by have := hown.1; omega)⟩
                  obtain ⟨zv, rfl⟩ := HXS.out x (List.mem_of_getElem? hx)
                  have r0 : wr.cell? ⟨g3, qq, none⟩ = some (.int .u8 zv) := by
                    have := hown.cells rfl qq _ hx
                    rw [add_none, Nat.zero_add] at this
                    exact this
                  have rf : wr.frozen? ⟨g3, qq, none⟩ = false := by
                    obtain ⟨z, hz⟩ := own_blk hown (k := g3) rfl
                    exact frozen_of hz qq
                  have e2 : (0 : Int) ≤ (qq : Int) := by omega
                  have e3 : (qq : Int) < (m7 : Int) := by omega
                  clear hown hx
                  go_wp2_with fail
                  go_roundw
                  case rel => exact ⟨qq + 1, ys.set qq (.int .u8 (bits BinOp.xor IntKind.u8 zv y)), by omega, by go_num, (fun x hx => by
                    rcases List.mem_or_eq_of_mem_set hx with y | y
                    · exact HXS.out x y
                    · exact ⟨_, y⟩), own_putB HOWN.out hqk _, HON.out.setCell (p := ⟨g3, qq, none⟩) (fun _ => rfl) _⟩
                  case measure => simp [intOf]; omega
              · have HW9 : Hid (TwiceW w wr pb g A4 c4) := HW8.out.on HON.out (fun e => by have h1 := (HN8.out pb e).1; omega) (fun k e x => by have h1 := (HN8.out k x).2.2 k e; omega) (fun k x => (HN8.out k x).2.1)
                clear hown
                go_wp2
                go_roundw
                case rel => exact ⟨q + 1, by omega, by go_num, HW9.out⟩
                case measure => simp [intOf]; omega
        · have HBY := Lib.hid (page_bytes pb g wr HW.out.bk)
          go_wp2_with fail
          refine HBY.out.mono ?_
          rintro e w7 ⟨v7, rfl, hf7⟩
          obtain ⟨A7, c7, hv7, _, _, _⟩ := own_form hf7.own
          subst hv7
          have HW7 := Lib.hid (HW.out.quietly hf7.quiet)
          have HSM := Lib.hid (same_any A7 A4 c7 c4 (pgL g) (pgL g) _ _ w7 (own_rd hf7.own) (own_rd HW7.out.own) HGB.out HGB.out)
          rw [decide_eq_true rfl, HM.out] at HSM
          rw [HM.out]
          clear hf7 HBY
          go_wp2_with fail
          refine HSM.out.mono ?_
          rintro e w8 ⟨rfl, rfl⟩
          go_wp2
          go_ret
          exact ⟨rfl, onward (Below.refl _ _) (Nat.le_refl _) HW7.out.quiet (fun _ x => x.elim)⟩

open Go.ChangeShapes Go.WideShapes in
set_option maxRecDepth 100000 in
theorem pageTwice_walk {H : Type} {enc : TypeId × Value → H} {r : Reach} {base : Nat} {d0 d1 : DataW H} {p0 p1 : List MemPlace} (v0 v1 : Value) (W : World)
    (o0 : Value.okWide Try.prog W r base 117 v0) (h0 : DataW.Trod enc Try.prog W 0 (fun _ => true) true 117 v0 d0 p0) (o1 : Value.okWide Try.prog W r base 5 v1) (h1 : DataW.Trod enc Try.prog W 0 (fun _ => true) true 5 v1 d1 p1) :
    Calls Try.prog 16 #[v0, v1] W fun e w' => e = .returned (.bool true) ∧ Below W.heap.size W w' := by
  obtain ⟨A, n, cap, rfl, a1, a2, a3⟩ := open_ops5 o0 h0
  obtain ⟨y, rfl, _, _, _⟩ := open_int Try.underlying5 o1 h1
  exact pageTwice_any A n cap y W a3 a1 a2

end Go.Proofs.Ytbibmgcklilpmaa
