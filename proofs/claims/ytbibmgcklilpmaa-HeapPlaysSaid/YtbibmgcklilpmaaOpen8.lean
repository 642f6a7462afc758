/- The script of HeapPlays, as it came in. No condition. -/
import Derived.Test.YtbibmgcklilpmaaOpen2
import Derived.Test.YtbibmgcklilpmaaSeen
namespace Go.Proofs.Ytbibmgcklilpmaa
open Go.RowKit Go.Lap

theorem cells_op8 : Try.prog.cellsOf 77 = 10 := by kernel_rfl
theorem cells_bool8 : Try.prog.cellsOf 4 = 1 := by kernel_rfl

/-- One call of a script, ten cells, below block B. -/
structure OpIn8 (w : World) (B b off k dn : Nat) (two : Bool) (pg sl : Int) (t : Tup) (A' : Option Addr) (cap' : Nat) : Prop where
  lt : b < B
  lo : dn < 256
  wf : Wf (pg, sl)
  lc : t.data.length ≤ cap'
  cm : cap' ≤ maxLen
  bytes : ∀ x ∈ t.data, x < 256
  rd : Rd w (· < B) 1 A' t.data.length (bytesV t.data)
  cells : ∀ j u, #[.int .u8 (dn : Int), .bool two, .int .i64 pg, .int .i64 sl, .int .u64 (t.row : Int), .int .u64 (t.xmin : Int), .int .u64 (t.xmax : Int), .int .i64 t.pg, .int .i64 t.sl, .slice A' t.data.length cap'][j]? = some u → w.cell? ⟨b, off + k * 10 + j, none⟩ = some u

def OpsIn8 (w : World) (B : Nat) (A : Option Addr) (n : Nat) : Prop :=
  ∀ k, k < n → ∃ (b off : Nat) (dn : Nat) (two : Bool) (pg sl : Int) (t : Tup) (A' : Option Addr) (cap' : Nat), A = some ⟨b, off, none⟩ ∧ OpIn8 w B b off k dn two pg sl t A' cap'

theorem OpIn8.kept {w w' : World} {B b off k dn : Nat} {two : Bool} {pg sl : Int} {t : Tup} {A' : Option Addr} {cap' : Nat} (h : OpIn8 w B b off k dn two pg sl t A' cap') (hb : Below B w w') : OpIn8 w' B b off k dn two pg sl t A' cap' :=
  ⟨h.lt, h.lo, h.wf, h.lc, h.cm, h.bytes, h.rd.kept (Only.ofBelow hb) (fun k x y => by omega), fun j u hu => by rw [hb.cell (p := ⟨b, _, none⟩) h.lt]; exact h.cells j u hu⟩

theorem OpsIn8.kept {w w' : World} {B : Nat} {A : Option Addr} {n : Nat} (h : OpsIn8 w B A n) (hb : Below B w w') : OpsIn8 w' B A n := by
  intro k hk
  obtain ⟨b, off, dn, two, pg, sl, t, A', cap', e, h1⟩ := h k hk
  exact ⟨b, off, dn, two, pg, sl, t, A', cap', e, h1.kept hb⟩

open Go.ChangeShapes Go.WideShapes in
set_option maxRecDepth 100000 in
theorem open_ops8 {H : Type} {enc : TypeId × Value → H} {W : World} {r : Reach} {base : Nat} {v : Value} {d : DataW H} {p : List MemPlace} (hv : Value.okWide Try.prog W r base 69 v) (h : DataW.Trod enc Try.prog W 0 (fun _ => true) true 69 v d p) :
    ∃ A n cap, v = .slice A n cap ∧ n ≤ cap ∧ cap ≤ maxLen ∧ OpsIn8 W W.heap.size A n := by
  obtain ⟨A, n, cap, hvv, h1, h2, h3⟩ := open_slice_of Try.underlying69 cells_op8 (by omega) hv h
  refine ⟨A, n, cap, hvv, h1, h2, fun i hi => ?_⟩
  obtain ⟨b, off, hA, hb, cs, m, x, hl, hc, htr⟩ := h3 i hi
  obtain ⟨z0, e0, g0⟩ := open_field_int Try.underlying77 htr 0 5 0 .u8 rfl cells_u8o Try.underlying5
  obtain ⟨dn, rfl, hdn⟩ := nat_u8 g0
  obtain ⟨n1, y1, f1⟩ := open_field Try.underlying77 htr 1 4 1 1 rfl cells_bool8
  obtain ⟨n2, y2, f2⟩ := open_field Try.underlying77 htr 2 51 2 2 rfl cells_tid
  obtain ⟨n3, y3, f3⟩ := open_field Try.underlying77 htr 3 54 4 6 rfl cells_tup
  obtain ⟨pg, sl, p0, p1, w0, w1⟩ := tid_in f2
  obtain ⟨t, A', cap', hcs, a1, a2, a3, a4⟩ := tup_in f3 (by simp; omega)
  obtain ⟨two, hb1, _⟩ := DataW.trod_bool Try.underlying4 f1
  refine ⟨b, off, dn, two, pg, sl, t, A', cap', hA, hb, hdn, ⟨w0, w1⟩, a1, a2, a3, a4, fun j u hu => ?_⟩
  have hj : j < 10 := by
    rcases Nat.lt_or_ge j 10 with x | x
    · exact x
    · rw [Array.getElem?_eq_none (by simpa using x)] at hu; cases hu
  rw [hc j hj]
  match cs, hl with
  | [x0, x1, x2, x3, x4, x5, x6, x7, x8, x9], _ =>
    simp at e0 hb1 p0 p1 hcs
    obtain ⟨q0, q1, q2, q3, q4, q5⟩ := hcs
    subst e0 hb1 p0 p1 q0 q1 q2 q3 q4 q5
    simpa using hu

end Go.Proofs.Ytbibmgcklilpmaa
