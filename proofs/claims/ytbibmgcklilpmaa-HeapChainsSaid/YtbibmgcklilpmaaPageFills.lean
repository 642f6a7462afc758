/- PageFills: as many versions of one size go into a page as there is room for, and no more. For every input. -/
import Derived.Test.YtbibmgcklilpmaaBoxed
import Derived.Test.YtbibmgcklilpmaaFillsPlain
import Derived.Test.YtbibmgcklilpmaaOpen
namespace Go.Proofs.Ytbibmgcklilpmaa
open Go.RowKit Go.Lap

/-- A slice of integers that came in, below block B. -/
def IntsIn (q : IntKind) (w : World) (B : Nat) (A : Option Addr) (n : Nat) : Prop :=
  ∀ k, k < n → ∃ b off z, A = some ⟨b, off, none⟩ ∧ b < B ∧ w.cell? ⟨b, off + k, none⟩ = some (.int q z) ∧ (Lit.int q z).wf = true

theorem IntsIn.kept {q : IntKind} {w w' : World} {B : Nat} {A : Option Addr} {n : Nat} (h : IntsIn q w B A n) (hb : Below B w w') : IntsIn q w' B A n := by
  intro k hk
  obtain ⟨b, off, z, e, h1, h2, h3⟩ := h k hk
  exact ⟨b, off, z, e, h1, by rw [hb.cell (p := ⟨b, _, none⟩) h1]; exact h2, h3⟩

theorem cells_u8 : Try.prog.cellsOf 5 = 1 := by kernel_rfl

theorem tupAt_all (n s : Nat) (t : Tup) (h : s < n) : tupAt (List.replicate n (some t)) (s : Int) = some t := by
  unfold tupAt
  rw [if_neg (by omega), Int.toNat_natCast, List.getElem?_replicate, if_pos h]; rfl

theorem tup0_v (k : Nat) (A : Option Addr) (cap : Nat) : tupV (tup0 k) A cap = .agg #[.int .u64 1, .int .u64 1, .int .u64 0, .int .i64 (-1), .int .i64 (-1), .slice A k cap] := by
  unfold tupV
  rw [show (tup0 k).data.length = k by simp [tup0]]
  rfl

theorem tup0_rd {w : World} {db k : Nat} (h : Bk w db k 5 (fun _ => 0)) : Rd w (fun _ => True) 1 (some ⟨db, 0, none⟩) (tup0 k).data.length (bytesV (tup0 k).data) := by
  refine ⟨by simp [bytesV], fun _ => ⟨db, 0, rfl, trivial, fun j u hu => ?_⟩⟩
  unfold bytesV tup0 at hu
  rw [List.getElem?_map, List.getElem?_replicate] at hu
  split at hu
  · rename_i hj
    rw [Nat.zero_add, h.cell hj]
    exact hu
  · cases hu

/-- The law's page, its version in its box. -/
structure FillW (w wr : World) (pb tb db k : Nat) (T : List (Option Tup)) : Prop where
  below : Below w.heap.size w wr
  box : wr.heap[tb]? = some (.cells #[.int .u64 1, .int .u64 1, .int .u64 0, .int .i64 (-1), .int .i64 (-1), .slice (some ⟨db, 0, none⟩) k k] 54 (0, 0))
  data : Bk wr db k 5 (fun _ => 0)
  page : PageT wr pb T
  ne : tb ≠ pb ∧ db ≠ pb ∧ w.heap.size ≤ pb

theorem FillW.turn {w wr w' : World} {pb tb db k : Nat} {T T' : List (Option Tup)} (h : FillW w wr pb tb db k T) (ho : Only (· = pb) wr w') (hp : PageT w' pb T') : FillW w w' pb tb db k T' :=
  ⟨onward h.below h.below.size ho (fun k e => by have := h.ne; omega), ho.get h.box h.ne.1, h.data.kept ho h.ne.2.1, hp, h.ne⟩

theorem FillW.drewN {w wr : World} {pb tb db k : Nat} {T : List (Option Tup)} (h : FillW w wr pb tb db k T) (n : Nat) : FillW w (wr.drewN n) pb tb db k T := ⟨below_drewN h.below n, h.box, h.data, h.page, h.ne⟩

theorem FillW.cells {w wr : World} {pb tb db k : Nat} {T : List (Option Tup)} (h : FillW w wr pb tb db k T) :
    wr.cell? ⟨tb, 0, none⟩ = some (.int .u64 1) ∧ wr.cell? ⟨tb, 1, none⟩ = some (.int .u64 1) ∧ wr.cell? ⟨tb, 2, none⟩ = some (.int .u64 0) ∧ wr.cell? ⟨tb, 3, none⟩ = some (.int .i64 (-1)) ∧ wr.cell? ⟨tb, 4, none⟩ = some (.int .i64 (-1)) ∧ wr.cell? ⟨tb, 5, none⟩ = some (.slice (some ⟨db, 0, none⟩) k k) :=
  ⟨by rw [cell_of h.box]; rfl, by rw [cell_of h.box]; rfl, by rw [cell_of h.box]; rfl, by rw [cell_of h.box]; rfl, by rw [cell_of h.box]; rfl, by rw [cell_of h.box]; rfl⟩

theorem FillW.insert {w wr : World} {pb tb db k : Nat} {T : List (Option Tup)} (h : FillW w wr pb tb db k T) :
    Calls Try.prog 30 #[.pointer (some ⟨pb, 0, none⟩), .agg #[.int .u64 1, .int .u64 1, .int .u64 0, .int .i64 (-1), .int .i64 (-1), .slice (some ⟨db, 0, none⟩) k k]] wr fun e w' => e = .returned (.tuple #[.int .i64 (pInsT T (tup0 k)).1, .int .i64 (pInsT T (tup0 k)).2.1]) ∧ FillW w w' pb tb db k (pInsT T (tup0 k)).2.2 := by
  have := pageT_insert pb T (tup0 k) (some ⟨db, 0, none⟩) k _ wr h.page (tup0_bytes k) (tup0_rd h.data)
  rw [tup0_v] at this
  exact this.mono fun e w' ⟨a, b, c⟩ => ⟨a, h.turn b c⟩

set_option maxHeartbeats 1000000 in
set_option maxRecDepth 100000 in
theorem pageFills_any (s : Int) (A : Option Addr) (n cap : Nat) (w : World) (hs : 0 ≤ s ∧ s ≤ 255) (h : IntsIn .u8 w w.heap.size A n) (hn : n ≤ cap) (hcap : cap ≤ maxLen) :
    Calls Try.prog 7 #[.int .u8 s, .slice A n cap] w fun e w' => e = .returned (.bool true) ∧ Below w.heap.size w w' := by
  unfold maxLen at hcap
  have H := Lib.hid h
  clear h
  go_enter Try.func7, Try.ntmps7
  go_wp2_with fail
  refine (awake5 _).mono ?_
  rintro e w1 ⟨rfl, hq1⟩
  have HQ1 := Lib.hid hq1
  clear hq1
  go_upto_region 4 with fail
  obtain ⟨k, hk, hk2⟩ : ∃ k : Nat, s % 201 = k ∧ k ≤ 200 := ⟨(s % 201).toNat, by omega, by omega⟩
  rw [hk]
  clear hk
  have hmk := fun W => make_u8 k (by omega) W
  go_cut [6] (fun s6 wx => ∃ tb db, s6 = .pointer (some ⟨tb, 0, none⟩) ∧ Boxed w1 wx tb db k (.int .u64 1) (.int .u64 1) (.int .u64 0) (.int .i64 (-1)) (.int .i64 (-1)))
  case first =>
    go_region_with (go_at_call 28; refine (nowhere_any _).mono ?_; rintro e w2 ⟨rfl, hq2⟩; obtain ⟨hc2, hf2⟩ := qcell hq2; have hz2 := hq2.size; simp only [World.size_alloc, World.size_drew] at hz2; (try have hl1 : w1.heap.size < w2.heap.size := by omega); (try have hl2 : w1.heap.size + 1 < w2.heap.size := by omega); (try have hl3 : w1.heap.size ≠ w2.heap.size := by omega); (try have hl4 : w1.heap.size + 1 ≠ w2.heap.size := by omega))
    · go_wp2_with fail
      go_meet
      clear hc2 hf2
      exact ⟨_, _, rfl, Boxed.a hq2⟩
    · go_wp2_with fail
      go_meet
      clear hc2 hf2
      exact ⟨_, _, rfl, Boxed.b hq2⟩
    · go_wp2_with fail
      go_meet
      clear hc2 hf2
      exact ⟨_, _, rfl, Boxed.c hq2⟩
    · go_wp2_with fail
      go_meet
      clear hc2 hf2
      exact ⟨_, _, rfl, Boxed.d hq2⟩
    · go_wp2_with fail
      go_meet
      clear hc2 hf2
      exact ⟨_, _, rfl, Boxed.e hq2⟩
    · go_wp2_with fail
      go_meet
      clear hc2 hf2
      exact ⟨_, _, rfl, Boxed.f hq2⟩
  case rest =>
    obtain ⟨tb, db, rfl, hbx⟩ := hcut
    have HBX := Lib.hid hbx
    clear hbx hmk
    go_wp2_with fail
    refine (pageT_new _).mono ?_
    rintro e w3 ⟨rfl, hq3, hs3, hp3⟩
    have HF : Hid (FillW w w3 wc.heap.size tb db k []) := by
      have hb := HBX.out
      have h1 := lt_of_get hb.box
      have h2 := hb.data.lt
      have h3 := HQ1.out.size
      have h4 := hb.quiet.size
      exact ⟨onward (onward (onward (Below.refl _ _) (Nat.le_refl _) HQ1.out (fun _ x => x.elim)) h3 hb.quiet (fun _ x => x.elim)) (by omega) hq3 (fun _ x => x.elim), hq3.get hb.box (fun x => x), hb.data.kept hq3 (fun x => x), hp3, by omega⟩
    clear hq3 hs3 hp3 HBX HQ1
    generalize wc.heap.size = pb at HF ⊢
    have HR := Lib.hid (tup0_right k hk2)
    have HSZ := Lib.hid (tup0_size k)
    go_wp2_with fail
    go_loopw [8, 27] (fun n v wr => ∃ i : Nat, i ≤ 20 ∧ v = .int .i64 i ∧ n = .int .i64 i ∧ i * (34 + k) ≤ 508 ∧ FillW w wr pb tb db k (List.replicate i (some (tup0 k)))) (fun _ v _ => 20 - (intOf v).toNat)
    case atStart => exact ⟨0, Nat.zero_le _, rfl, rfl, by omega, HF.out⟩
    case round =>
      obtain ⟨i, hi, rfl, rfl, hfit, hW⟩ := hrel
      have hi14 : i ≤ 14 := by
        rcases Nat.lt_or_ge 14 i with h | h
        · have : 15 * 34 ≤ i * (34 + k) := Nat.mul_le_mul h (by omega)
          omega
        · exact h
      have HW := Lib.hid hW
      have HFIT := Lib.hid hfit
      obtain ⟨c0, c1, c2, c3, c4, c5⟩ := hW.cells
      clear hW HF hfit
      by_cases hroom : (i + 1) * (34 + k) ≤ 508
      · have HI := Lib.hid HW.out.insert
        rw [ins_all i (tup0 k) HR.out (by rw [HSZ.out]; exact hroom)] at HI
        have HRM := Lib.hid hroom
        clear hroom
        go_wp2_with fail
        refine HI.out.mono ?_
        rintro e w4 ⟨rfl, hw4⟩
        have HW4 := Lib.hid hw4
        clear hw4 HI
        go_wp2
        go_roundw
        case rel => exact ⟨i + 1, by omega, by go_num, by go_num, HRM.out, HW4.out⟩
        case measure => simp [intOf]; omega
      · have HI := Lib.hid HW.out.insert
        rw [ins_full i (tup0 k) HR.out (by rw [HSZ.out]; omega)] at HI
        have hdiv := fill_count HFIT.out (by omega)
        have h2 : 2 ≤ i := by
          rcases Nat.lt_or_ge i 2 with h | h
          · have : (i + 1) * (34 + k) ≤ 2 * 234 := Nat.mul_le_mul (by omega) (by omega)
            omega
          · exact h
        have HFULL : Hid (508 < (i + 1) * (34 + k)) := by show 508 < (i + 1) * (34 + k); omega
        clear hroom
        go_wp2_with fail
        refine HI.out.mono ?_
        rintro e w4 ⟨rfl, hw4⟩
        have HW4 := Lib.hid hw4
        clear hw4 HI HW c0 c1 c2 c3 c4 c5
        go_wp2_with fail
        clear hdiv
        go_loopw [47] (fun v wr => ∃ j : Nat, j ≤ n ∧ v = .int .i64 j ∧ FillW w wr pb tb db k (List.replicate i (some (tup0 k)))) (fun v _ => n - (intOf v).toNat)
        case atStart => exact ⟨0, Nat.zero_le _, rfl, HW4.out⟩
        case round =>
          obtain ⟨j, hj, rfl, hW⟩ := hrel
          have HW := Lib.hid hW
          clear HW4
          by_cases hlt : j < n
          · obtain ⟨b, off, z, rfl, hb, hc, wz⟩ := H.out.kept hW.below j hlt
            have hz := bounds_u8 wz
            clear hW wz
            by_cases h12 : j < 12
            · obtain ⟨sN, hsN, hlts⟩ : ∃ sN : Nat, z % (i : Int) = sN ∧ sN < i := ⟨(z % i).toNat, by have := Int.emod_nonneg z (show (i : Int) ≠ 0 by omega); omega, by have := Int.emod_nonneg z (show (i : Int) ≠ 0 by omega); have := Int.emod_lt_of_pos z (show (0 : Int) < i by omega); omega⟩
              go_wp2_with fail
              refine (pageT_free_some pb (tup0 k) _ _ _ HW.out.page (tupAt_all i sN (tup0 k) hlts)).mono ?_
              rintro e w5 ⟨rfl, ho5, hp5⟩
              have HW5 := Lib.hid (HW.out.turn ho5 hp5)
              rw [Int.toNat_natCast] at HW5
              clear ho5 hp5
              have HI := Lib.hid HW5.out.insert
              rw [ins_hole i sN (tup0 k) HR.out hlts (by rw [HSZ.out]; exact HFIT.out)] at HI
              obtain ⟨c0, c1, c2, c3, c4, c5⟩ := HW5.out.cells
              go_wp2_with fail
              refine HI.out.mono ?_
              rintro e w6 ⟨rfl, hw6⟩
              have HW6 := Lib.hid hw6
              clear hw6 HI c0 c1 c2 c3 c4 c5 HW5
              have HI := Lib.hid HW6.out.insert
              rw [ins_full i (tup0 k) HR.out (by rw [HSZ.out]; exact HFULL.out)] at HI
              obtain ⟨c0, c1, c2, c3, c4, c5⟩ := HW6.out.cells
              go_wp2_with fail
              refine HI.out.mono ?_
              rintro e w7 ⟨rfl, hw7⟩
              have HW7 := Lib.hid hw7
              clear hw7 HI c0 c1 c2 c3 c4 c5 HW6
              go_wp2
              go_roundw
              case rel => exact ⟨j + 1, by omega, by go_num, HW7.out⟩
              case measure => simp [intOf]; omega
            · go_wp2_with fail
              refine (pageT_used pb _ _ HW.out.page).mono ?_
              rintro e w5 ⟨rfl, n5, rfl⟩
              rw [used_all]
              go_wp2
              go_ret
              exact ⟨by simp, (HW.out.drewN n5).below⟩
          · clear hW
            go_wp2_with fail
            refine (pageT_used pb _ _ HW.out.page).mono ?_
            rintro e w5 ⟨rfl, n5, rfl⟩
            rw [used_all]
            go_wp2
            go_ret
            exact ⟨by simp, (HW.out.drewN n5).below⟩

open Go.ChangeShapes Go.WideShapes in
set_option maxRecDepth 100000 in
theorem pageFills_walk {H : Type} {enc : TypeId × Value → H} {r : Reach} {base : Nat} {d0 d1 : DataW H} {p0 p1 : List MemPlace} (v0 v1 : Value) (W : World)
    (o0 : Value.okWide Try.prog W r base 5 v0) (h0 : DataW.Trod enc Try.prog W 0 (fun _ => true) true 5 v0 d0 p0) (o1 : Value.okWide Try.prog W r base 48 v1) (h1 : DataW.Trod enc Try.prog W 0 (fun _ => true) true 48 v1 d1 p1) :
    Calls Try.prog 7 #[v0, v1] W fun e w' => e = .returned (.bool true) ∧ Below W.heap.size W w' := by
  obtain ⟨x, rfl, _, _, wx⟩ := open_int Try.underlying5 o0 h0
  obtain ⟨A, n, cap, rfl, a1, a2, a3⟩ := open_slice_int Try.underlying48 Try.underlying5 cells_u8 o1 h1
  exact pageFills_any x A n cap W (bounds_u8 wx) a3 a1 a2

end Go.Proofs.Ytbibmgcklilpmaa
