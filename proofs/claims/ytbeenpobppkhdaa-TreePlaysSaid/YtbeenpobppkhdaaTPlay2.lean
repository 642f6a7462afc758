/- Scripts of calls that came in; an entry of the law's own in a box. No condition. -/
import Derived.Test.YtbeenpobppkhdaaTPlay1
namespace Go.Lap
/-- A call of a script, and where its parts lie. -/
structure OpV where
  d : Nat
  key : List Nat
  pg : Int
  sl : Int
  A : Option Addr
  cap : Nat
  B : Option Addr
  m : Nat
  c2 : Nat
  ps : List (Int × Int)
end Go.Lap
namespace Go.Proofs.Ytbeenpobppkhdaa
open Go.RowKit Go.Lap

structure OpOk (w : World) (L : Nat) (o : OpV) : Prop where
  d256 : o.d < 256
  kc : o.key.length ≤ o.cap
  km : o.cap ≤ maxLen
  kb : ∀ x ∈ o.key, x < 256
  kr : Rd w (· < L) 1 o.A o.key.length (bytesV o.key)
  wf : Wf (o.pg, o.sl)
  pl : o.ps.length = o.m
  mc : o.m ≤ o.c2
  cm : o.c2 ≤ maxLen
  pw : ∀ p ∈ o.ps, Wf p
  pr : Rd w (· < L) 2 o.B o.m (tidsV o.ps)

theorem OpOk.kept {w w' : World} {L : Nat} {o : OpV} {S : Nat → Prop} (h : OpOk w L o) (ho : Only S w w') (hS : ∀ k, S k → L ≤ k) : OpOk w' L o :=
  ⟨h.d256, h.kc, h.km, h.kb, h.kr.kept ho (fun k x y => by have := hS k y; omega), h.wf, h.pl, h.mc, h.cm, h.pw, h.pr.kept ho (fun k x y => by have := hS k y; omega)⟩

/-- Calls that came in, each five cells, below block L. -/
def OpsIn (w : World) (L : Nat) (A : Option Addr) (n : Nat) : Prop :=
  ∀ k, k < n → ∃ (b off : Nat) (o : OpV), A = some ⟨b, off, none⟩ ∧ b < L ∧ OpOk w L o ∧
    w.cell? ⟨b, off + k * 5, none⟩ = some (.int .u8 (o.d : Int)) ∧ w.cell? ⟨b, off + k * 5 + 1, none⟩ = some (.slice o.A o.key.length o.cap) ∧ w.cell? ⟨b, off + k * 5 + 2, none⟩ = some (.int .i64 o.pg) ∧ w.cell? ⟨b, off + k * 5 + 3, none⟩ = some (.int .i64 o.sl) ∧ w.cell? ⟨b, off + k * 5 + 4, none⟩ = some (.slice o.B o.m o.c2)

theorem OpsIn.kept {w w' : World} {L : Nat} {A : Option Addr} {n : Nat} (h : OpsIn w L A n) (hb : Below L w w') : OpsIn w' L A n := by
  intro k hk
  obtain ⟨b, off, o, e, h1, h2, c0, c1, c2, c3, c4⟩ := h k hk
  exact ⟨b, off, o, e, h1, h2.kept (Only.ofBelow hb) (fun k x => x), by rw [hb.cell (p := ⟨b, _, none⟩) h1]; exact c0, by rw [hb.cell (p := ⟨b, _, none⟩) h1]; exact c1, by rw [hb.cell (p := ⟨b, _, none⟩) h1]; exact c2, by rw [hb.cell (p := ⟨b, _, none⟩) h1]; exact c3, by rw [hb.cell (p := ⟨b, _, none⟩) h1]; exact c4⟩

theorem cells_op : Try.prog.cellsOf 55 = 5 := by kernel_rfl
theorem cells_tids : Try.prog.cellsOf 42 = 1 := by kernel_rfl

open Go.ChangeShapes Go.WideShapes in
set_option maxRecDepth 100000 in
theorem open_ops {H : Type} {enc : TypeId × Value → H} {W : World} {r : Reach} {base : Nat} {v : Value} {d : DataW H} {p : List MemPlace} (hv : Value.okWide Try.prog W r base 53 v) (h : DataW.Trod enc Try.prog W 0 (fun _ => true) true 53 v d p) :
    ∃ A n cap, v = .slice A n cap ∧ n ≤ cap ∧ cap ≤ maxLen ∧ OpsIn W W.heap.size A n := by
  obtain ⟨A, n, cap, hvv, h1, h2, h3⟩ := open_slice_of Try.underlying53 cells_op (by omega) hv h
  refine ⟨A, n, cap, hvv, h1, h2, fun i hi => ?_⟩
  obtain ⟨b, off, hA, hb, cs, m, x, hl, hc, htr⟩ := h3 i hi
  obtain ⟨z0, e0, g0⟩ := open_field_int Try.underlying55 htr 0 5 0 .u8 rfl cells_u8o Try.underlying5
  obtain ⟨d0, rfl, hd0⟩ := nat_u8 g0
  obtain ⟨n1, y1, f1⟩ := open_field Try.underlying55 htr 1 31 1 3 rfl cells_rent
  obtain ⟨n2, y2, f2⟩ := open_field Try.underlying55 htr 2 42 4 1 rfl cells_tids
  obtain ⟨n3, y3, f3⟩ := open_field Try.underlying31 f1 0 23 0 1 rfl cells_u8s
  obtain ⟨n4, y4, f4⟩ := open_field Try.underlying31 f1 1 29 1 2 rfl cells_tid
  obtain ⟨pg, sl, p0, p1, q0, q1⟩ := tid_in f4
  obtain ⟨A', n', cap', e5, a1, a2, a3⟩ := open_slice_in Try.underlying23 cells_u8o (by omega) f3
  obtain ⟨l, rfl, hb', hr⟩ := reads_bytes (A := A') (n := n') (W := W) (fun i hi => by
    obtain ⟨b, off, hA, hb, cs', m', x', _, hc, htr⟩ := a3 i hi
    obtain ⟨z, rfl, _, hz⟩ := DataW.trod_int Try.underlying5 htr
    refine ⟨b, off, z, hA, hb, ?_, hz⟩
    have := hc 0 (by omega)
    rw [Nat.mul_one, Nat.add_zero] at this
    exact this)
  obtain ⟨A2, m2, cap2, e6, b1, b2, b3⟩ := open_slice_in Try.underlying42 cells_tid (by omega) f2
  obtain ⟨ps, h4, h5, h6⟩ := reads_tids (W := W) (A := A2) (n := m2) (fun i hi => by
    obtain ⟨b, off, hA, hb, cs, m, x, hl, hc, htr⟩ := b3 i hi
    obtain ⟨pg, sl, p0, p1, g0, g1⟩ := tid_in htr
    have hc0 := hc 0 (by omega)
    have hc1 := hc 1 (by omega)
    exact ⟨b, off, pg, sl, hA, hb, by rw [p0] at hc0; exact hc0, by rw [p1] at hc1; exact hc1, g0, g1⟩)
  have hc0 := hc 0 (by omega)
  have hc1 := hc 1 (by omega)
  have hc2 := hc 2 (by omega)
  have hc3 := hc 3 (by omega)
  have hc4 := hc 4 (by omega)
  refine ⟨b, off, ⟨d0, l, pg, sl, A', cap', A2, m2, cap2, ps⟩, hA, hb, ⟨hd0, a1, a2, hb', hr, ⟨q0, q1⟩, h4, b1, b2, h5, h6⟩, ?_, ?_, ?_, ?_, ?_⟩
  all_goals
    match cs, hl with
    | [x0, x1, x2, x3, x4], _ =>
      simp at e0 e5 e6 p0 p1 hc0 hc1 hc2 hc3 hc4
      subst e0 e5 e6 p0 p1
      assumption

/-- An entry of the law's own, in a box: its key lies in a new row. -/
structure EBox (w wx : World) (bx : Nat) (t : TypeId) (k : List Nat) (pg sl : Int) (A : Option Addr) (c : Nat) : Prop where
  quiet : Quiet w wx
  box : wx.heap[bx]? = some (.cells #[.slice A k.length c, .int .i64 pg, .int .i64 sl] t (0, 0))
  new : w.heap.size ≤ bx
  row : wx.ownsRow 0 5 1 (.slice A k.length c) k.length (bytesV k)
  rnew : ∀ b, (Value.slice A k.length c).ownBlock = some b → w.heap.size ≤ b ∧ b ≠ bx

/-- The key first, then the box. -/
theorem EBox.a {w w5 : World} {k : List Nat} {A : Option Addr} {c : Nat} (h : Fresh w w5 (.slice A k.length c) k) (t : TypeId) (pg sl : Int) : EBox w (w5.alloc (.cells #[.slice A k.length c, .int .i64 pg, .int .i64 sl] t)) w5.heap.size t k pg sl A c :=
  ⟨h.quiet.alloc _, alloc_new _ _, h.quiet.size, owns_kept h.own ((Only.refl (fun _ => False) _).alloc _) (fun _ _ x => x), fun b e => ⟨h.new b e, by have := (h.own.lt b e).2; omega⟩⟩

/-- The box first, then the key. -/
theorem EBox.b {w w5 : World} {k : List Nat} {A : Option Addr} {c : Nat} {x y z : Value} {t : TypeId} (h : Fresh (w.alloc (.cells #[x, y, z] t)) w5 (.slice A k.length c) k) (pg sl : Int) : EBox w (triSet w5 w.heap.size (.slice A k.length c) (.int .i64 pg) (.int .i64 sl)) w.heap.size t k pg sl A c := by
  have hz := h.quiet.size
  rw [World.size_alloc] at hz
  have hb := h.quiet.get (alloc_new w (.cells #[x, y, z] t)) (fun x => x)
  have ho := triSet_only w5 w.heap.size (.slice A k.length c) (.int .i64 pg) (.int .i64 sl)
  have hn : ∀ b, (Value.slice A k.length c).ownBlock = some b → w.heap.size + 1 ≤ b := fun b e => by have := h.new b e; rw [World.size_alloc] at this; exact this
  refine ⟨(((Only.refl (fun _ => False) w).alloc _).trans h.quiet).trans' ho (fun k hk e => by omega), triSet_same hb _ _ _, Nat.le_refl _, owns_kept h.own ho (fun b e y => by have := hn b e; omega), fun b e => by have := hn b e; exact ⟨by omega, by omega⟩⟩

theorem EBox.drew {w wx : World} {bx : Nat} {t : TypeId} {k : List Nat} {pg sl : Int} {A : Option Addr} {c : Nat} (h : EBox w wx bx t k pg sl A c) : EBox w wx.drew bx t k pg sl A c :=
  ⟨h.quiet.drew, h.box, h.new, h.row, h.rnew⟩

theorem EBox.from {w w0 wx : World} {bx : Nat} {t : TypeId} {k : List Nat} {pg sl : Int} {A : Option Addr} {c : Nat} (h : EBox w wx bx t k pg sl A c) (hq : Quiet w0 w) : EBox w0 wx bx t k pg sl A c :=
  ⟨hq.trans h.quiet, h.box, by have := h.new; have := hq.size; omega, h.row, fun b e => ⟨by have := (h.rnew b e).1; have := hq.size; omega, (h.rnew b e).2⟩⟩

theorem EBox.later {w wx W : World} {bx : Nat} {t : TypeId} {k : List Nat} {pg sl : Int} {A : Option Addr} {c : Nat} (h : EBox w wx bx t k pg sl A c) (hq : Quiet wx W) : EBox w W bx t k pg sl A c :=
  ⟨h.quiet.trans hq, hq.get h.box (fun x => x), h.new, owns_kept h.row hq (fun _ _ x => x), h.rnew⟩

end Go.Proofs.Ytbeenpobppkhdaa
