/- The scripts of the laws on pages, as they came in; the contract of build. No condition. -/
import Derived.Test.YtbibmgcklilpmaaPageDo
import Derived.Test.YtbibmgcklilpmaaOpen2
namespace Go.Proofs.Ytbibmgcklilpmaa
open Go.RowKit Go.Lap

/-- One call of a script, eight cells, below block B. -/
structure OpIn5 (w : World) (B b off k dn : Nat) (i : Int) (t : Tup) (A' : Option Addr) (cap' : Nat) : Prop where
  lt : b < B
  lo : dn < 256
  lc : t.data.length ≤ cap'
  cm : cap' ≤ maxLen
  bytes : ∀ x ∈ t.data, x < 256
  rd : Rd w (· < B) 1 A' t.data.length (bytesV t.data)
  cells : ∀ j u, #[.int .u8 (dn : Int), .int .i64 i, .int .u64 (t.row : Int), .int .u64 (t.xmin : Int), .int .u64 (t.xmax : Int), .int .i64 t.pg, .int .i64 t.sl, .slice A' t.data.length cap'][j]? = some u → w.cell? ⟨b, off + k * 8 + j, none⟩ = some u

def OpsIn5 (w : World) (B : Nat) (A : Option Addr) (n : Nat) : Prop :=
  ∀ k, k < n → ∃ (b off : Nat) (dn : Nat) (i : Int) (t : Tup) (A' : Option Addr) (cap' : Nat), A = some ⟨b, off, none⟩ ∧ OpIn5 w B b off k dn i t A' cap'

theorem OpsIn5.kept {w w' : World} {B : Nat} {A : Option Addr} {n : Nat} (h : OpsIn5 w B A n) (hb : Below B w w') : OpsIn5 w' B A n := by
  intro k hk
  obtain ⟨b, off, dn, i, t, A', cap', e, h⟩ := h k hk
  exact ⟨b, off, dn, i, t, A', cap', e, h.lt, h.lo, h.lc, h.cm, h.bytes, h.rd.kept (Only.ofBelow hb) (fun k x y => by omega), fun j u hu => by rw [hb.cell (p := ⟨b, _, none⟩) h.lt]; exact h.cells j u hu⟩

theorem cells_op5 : Try.prog.cellsOf 119 = 8 := by kernel_rfl

open Go.ChangeShapes Go.WideShapes in
set_option maxRecDepth 100000 in
theorem op5_in {H : Type} {enc : TypeId × Value → H} {W : World} {m : Nat} {cs : List Value} {x : DataW H × List MemPlace} (h : DataW.trod enc Try.prog W 0 (fun _ => true) true m 119 cs = some x) (hl : cs.length = 8) :
    ∃ (dn : Nat) (i : Int) (t : Tup) (A' : Option Addr) (cap' : Nat), dn < 256 ∧ t.data.length ≤ cap' ∧ cap' ≤ maxLen ∧ (∀ x ∈ t.data, x < 256) ∧ Rd W (· < W.heap.size) 1 A' t.data.length (bytesV t.data) ∧ cs = [.int .u8 (dn : Int), .int .i64 i, .int .u64 (t.row : Int), .int .u64 (t.xmin : Int), .int .u64 (t.xmax : Int), .int .i64 t.pg, .int .i64 t.sl, .slice A' t.data.length cap'] := by
  obtain ⟨z0, e0, g0⟩ := open_field_int Try.underlying119 h 0 5 0 .u8 rfl cells_u8o Try.underlying5
  obtain ⟨dn, rfl, hdn⟩ := nat_u8 g0
  obtain ⟨z1, e1, g1⟩ := open_field_int Try.underlying119 h 1 3 1 .i64 rfl cells_into Try.underlying3
  obtain ⟨n3, y3, f3⟩ := open_field Try.underlying119 h 2 54 2 6 rfl cells_tup
  obtain ⟨t, A', cap', hcs, a1, a2, a3, a4⟩ := tup_in f3 (by simp; omega)
  refine ⟨dn, z1, t, A', cap', hdn, a1, a2, a3, a4, ?_⟩
  match cs, hl with
  | [x0, x1, x2, x3, x4, x5, x6, x7], _ =>
    simp at e0 e1 hcs
    obtain ⟨q0, q1, q2, q3, q4, q5⟩ := hcs
    subst e0 e1 q0 q1 q2 q3 q4 q5
    rfl

open Go.ChangeShapes Go.WideShapes in
set_option maxRecDepth 100000 in
theorem open_ops5 {H : Type} {enc : TypeId × Value → H} {W : World} {r : Reach} {base : Nat} {v : Value} {d : DataW H} {p : List MemPlace} (hv : Value.okWide Try.prog W r base 117 v) (h : DataW.Trod enc Try.prog W 0 (fun _ => true) true 117 v d p) :
    ∃ A n cap, v = .slice A n cap ∧ n ≤ cap ∧ cap ≤ maxLen ∧ OpsIn5 W W.heap.size A n := by
  obtain ⟨A, n, cap, hvv, h1, h2, h3⟩ := open_slice_of Try.underlying117 cells_op5 (by omega) hv h
  refine ⟨A, n, cap, hvv, h1, h2, fun i hi => ?_⟩
  obtain ⟨b, off, hA, hb, cs, m, x, hl, hc, htr⟩ := h3 i hi
  obtain ⟨dn, z, t, A', cap', g1, g2, g3, g4, g5, rfl⟩ := op5_in htr hl
  refine ⟨b, off, dn, z, t, A', cap', hA, hb, g1, g2, g3, g4, g5, fun j u hu => ?_⟩
  have hj : j < 8 := by
    rcases Nat.lt_or_ge j 8 with x | x
    · exact x
    · rw [Array.getElem?_eq_none (by simpa using x)] at hu; cases hu
  rw [hc j hj]
  simpa using hu

theorem op5_cells {w : World} {b off k : Nat} {v0 v1 v2 v3 v4 v5 v6 v7 : Value} (h : ∀ j u, #[v0, v1, v2, v3, v4, v5, v6, v7][j]? = some u → w.cell? ⟨b, off + k * 8 + j, none⟩ = some u) :
    w.cell? ⟨b, off + k * 8, none⟩ = some v0 ∧ w.cell? ⟨b, off + k * 8 + 1, none⟩ = some v1 ∧ w.cell? ⟨b, off + k * 8 + 2, none⟩ = some v2 ∧ w.cell? ⟨b, off + k * 8 + 3, none⟩ = some v3 ∧ w.cell? ⟨b, off + k * 8 + 4, none⟩ = some v4 ∧ w.cell? ⟨b, off + k * 8 + 5, none⟩ = some v5 ∧ w.cell? ⟨b, off + k * 8 + 6, none⟩ = some v6 ∧ w.cell? ⟨b, off + k * 8 + 7, none⟩ = some v7 :=
  ⟨h 0 _ rfl, h 1 _ rfl, h 2 _ rfl, h 3 _ rfl, h 4 _ rfl, h 5 _ rfl, h 6 _ rfl, h 7 _ rfl⟩

/-- A page and the document's in a law's world: both are younger than the law. -/
structure BuiltW (w W : World) (pb xb : Nat) : Prop where
  quiet : Quiet w W
  ex : ∃ (S : Nat → Prop) (L : List Slot) (st : Nat), BothAt W (some pb) (some xb) S L st L st ∧ ∀ k, S k → w.heap.size ≤ k
  new : w.heap.size ≤ pb

theorem BuiltW.quietly {w W W' : World} {pb xb : Nat} (h : BuiltW w W pb xb) (hq : Quiet W W') : BuiltW w W' pb xb := by
  obtain ⟨S, L, st, h1, h2⟩ := h.ex
  exact ⟨h.quiet.trans hq, ⟨S, L, st, h1.quietly hq, h2⟩, h.new⟩

set_option maxHeartbeats 4000000 in
set_option maxRecDepth 100000 in
theorem build_any (A : Option Addr) (n cap : Nat) (w : World) (B : Nat) (hBw : B ≤ w.heap.size) (h : OpsIn5 w B A n) (hn : n ≤ cap) (hcap : cap ≤ maxLen) :
    Calls Try.prog 68 #[.slice A n cap, .int .i64 30] w fun e w' => ∃ pb L st, e = .returned (.pointer (some ⟨pb, 0, none⟩)) ∧ Quiet w w' ∧ PageAt w' pb L st ∧ w.heap.size ≤ pb := by
  unfold maxLen at hcap
  have HI := Lib.hid h
  clear h
  go_enter Try.func68, Try.ntmps68
  go_wp2_with fail
  refine (page_new w).mono ?_
  rintro e w1 ⟨rfl, hq1, hs1, hp1⟩
  have HQ1 := Lib.hid hq1
  have HP1 := Lib.hid hp1
  clear hq1 hs1 hp1
  go_wp2_with fail
  refine (rp_new w1).mono ?_
  rintro e w2 ⟨rfl, hq2, hr2⟩
  have HS0 : Hid (BuiltW w w2 w.heap.size w1.heap.size) := by
    have hz1 := HQ1.out.size
    have hp := HP1.out.kept hq2 (fun x => x)
    exact ⟨HQ1.out.trans hq2, ⟨fun k => w1.heap.size ≤ k ∧ k < w2.heap.size, [], 512, ⟨fun k x => x.2, Or.inr ⟨_, _, rfl, rfl, hp, hr2.limS, fun x => by have := HP1.out.lt; omega⟩⟩, fun k x => by omega⟩, Nat.le_refl _⟩
  clear hq2 hr2 HQ1 HP1
  go_wp2_with fail
  generalize w.heap.size = pb at HS0 ⊢
  generalize w1.heap.size = xb at HS0 ⊢
  go_loopw [13, 5, 7, 8] (fun c c5 _ _ wr => ∃ i : Nat, i ≤ n ∧ c = .int .i64 (i : Int) ∧ c5 = .pointer (some ⟨pb, 0, none⟩) ∧ BuiltW w wr pb xb) (fun c _ _ _ _ => n - (intOf c).toNat)
  case atStart => exact ⟨0, Nat.zero_le _, rfl, rfl, HS0.out⟩
  case round =>
    obtain ⟨i, hi, rfl, rfl, hW⟩ := hrel
    have HW := Lib.hid hW
    clear hW HS0
    by_cases hlt : i < n
    · obtain ⟨b, off, dn, z, t, A', cap', rfl, hop⟩ := HI.out.kept (onward (Below.refl _ _) hBw HW.out.quiet (fun _ x => x.elim)) i hlt
      obtain ⟨c0, c1, c2, c3, c4, c5, c6, c7⟩ := op5_cells hop.cells
      have HOP := Lib.hid hop
      have hdn := hop.lo
      have e0 : (0 : Int) ≤ (i : Int) := by omega
      have e1 : (i : Int) < (n : Int) := by omega
      have hbr : b < wr.heap.size := by have h1 := hop.lt; have h2 := HW.out.quiet.size; omega
      clear hop
      have HW1 := Lib.hid (HW.out.quietly ((Only.refl (fun _ => False) wr).alloc (.cells #[.int .u8 (dn : Int), .int .i64 z, .int .u64 (t.row : Int), .int .u64 (t.xmin : Int), .int .u64 (t.xmax : Int), .int .i64 t.pg, .int .i64 t.sl, .slice A' t.data.length cap'] 119)))
      obtain ⟨r8, hr8⟩ : ∃ r8, dn % 8 = r8 := ⟨_, rfl⟩
      have ht8 : (dn : Int).tmod 8 = (r8 : Int) := by rw [Int.tmod_eq_emod_of_nonneg (by omega)]; omega
      have hw8 : IntKind.u8.wrap (r8 : Int) = (r8 : Int) := wrapU8 r8 (by omega)
      by_cases h30 : i < 30
      · by_cases h7 : r8 = 7
        · have d7 : ((r8 : Int) != 7) = false := by simp [h7]
          go_wp2
          go_roundw
          case rel => exact ⟨i + 1, by omega, by go_num, rfl, HW1.out⟩
          case measure => simp [intOf]; omega
        · have d7 : ((r8 : Int) != 7) = true := by simp; omega
          have HB1 := Lib.hid HW1.out.ex
          go_upto_region 6 with fail
          have HRD := Lib.hid (HOP.out.rd.kept ((Only.refl (fun _ => False) wr).alloc (.cells #[.int .u8 (dn : Int), .int .i64 z, .int .u64 (t.row : Int), .int .u64 (t.xmin : Int), .int .u64 (t.xmax : Int), .int .i64 t.pg, .int .i64 t.sl, .slice A' t.data.length cap'] 119)) (fun _ _ x => x))
          obtain ⟨S, L, st, hb, hS⟩ := HB1.out
          have hdo0 := do_any (Sd := fun k => k < B) dn z t A' cap' hb hdn (by omega) HRD.out (fun k x => ⟨fun y => by have := hS k y; omega, fun y => by injection y with y; have := HW1.out.new; omega⟩) HOP.out.lc HOP.out.cm HOP.out.bytes
          have hdo := hdo0.mono (fun _ _ ⟨a, b, S', L', st', c, _, d⟩ => (⟨a, b, S', L', st', c, d⟩ : _ ∧ _ ∧ ∃ (S' : Nat → Prop) (L' : List Slot) (st' : Nat), BothAt _ (some pb) (some xb) S' L' st' L' st' ∧ ∀ k, S' k → S k ∨ _ ≤ k))
          have HDO : Hid (Calls Try.prog 71 #[.pointer (some ⟨pb, 0, none⟩), .pointer (some ⟨xb, 0, none⟩), .agg #[.int .u8 (dn : Int), .int .i64 z, .int .u64 (t.row : Int), .int .u64 (t.xmin : Int), .int .u64 (t.xmax : Int), .int .i64 t.pg, .int .i64 t.sl, .slice A' t.data.length cap']] (wr.alloc (.cells #[.int .u8 (dn : Int), .int .i64 z, .int .u64 (t.row : Int), .int .u64 (t.xmin : Int), .int .u64 (t.xmax : Int), .int .i64 t.pg, .int .i64 t.sl, .slice A' t.data.length cap'] 119)) fun e w3 => e = .returned (.tuple #[.pointer (some ⟨pb, 0, none⟩), .bool true]) ∧ Only (fun k => S k ∨ some pb = some k) (wr.alloc (.cells #[.int .u8 (dn : Int), .int .i64 z, .int .u64 (t.row : Int), .int .u64 (t.xmin : Int), .int .u64 (t.xmax : Int), .int .i64 t.pg, .int .i64 t.sl, .slice A' t.data.length cap'] 119)) w3 ∧ ∃ (S' : Nat → Prop) (L' : List Slot) (st' : Nat), BothAt w3 (some pb) (some xb) S' L' st' L' st' ∧ ∀ k, S' k → S k ∨ (wr.alloc (.cells #[.int .u8 (dn : Int), .int .i64 z, .int .u64 (t.row : Int), .int .u64 (t.xmin : Int), .int .u64 (t.xmax : Int), .int .i64 t.pg, .int .i64 t.sl, .slice A' t.data.length cap'] 119)).heap.size ≤ k) := hdo
          have HSS := Lib.hid hS
          clear hdo hdo0 hb hS HB1
          go_wp2_with fail
          refine HDO.out.mono ?_
          rintro e w3 ⟨rfl, ho3, S', L', st', hb3, hS3⟩
          have HW3 : Hid (BuiltW w w3 pb xb) := ⟨HW1.out.quiet.trans' ho3 (fun k hk x => by
            rcases x with x | x
            · have := HSS.out k x; omega
            · injection x with x; have := HW1.out.new; omega), ⟨S', L', st', hb3, fun k x => by
            rcases hS3 k x with y | y
            · exact HSS.out k y
            · have h1 := HW1.out.quiet.size; omega⟩, HW1.out.new⟩
          clear ho3 hb3 hS3 HDO HRD HW1
          go_wp2
          go_roundw
          case rel => exact ⟨i + 1, by omega, by go_num, rfl, HW3.out⟩
          case measure => simp [intOf]; omega
      · go_wp2
        go_roundw
        case rel => exact ⟨i + 1, by omega, by go_num, rfl, HW1.out⟩
        case measure => simp [intOf]; omega
    · obtain ⟨S, L, st, hb, _⟩ := HW.out.ex
      have HPG : Hid (PageAt wr pb L st) := by
        rcases hb.2 with ⟨x, _⟩ | ⟨pb', _, x, _, y, _⟩
        · cases x
        · injection x with x
          rw [x]
          exact y
      clear hb
      go_wp2
      go_ret
      exact ⟨pb, L, st, rfl, HW.out.quiet, HPG.out, HW.out.new⟩

end Go.Proofs.Ytbibmgcklilpmaa
