/- The contracts of page.unpack, Get. No condition. -/
import Derived.Test.YtbibmgcklilpmaaBytes
import Derived.Test.YtbibmgcklilpmaaBoxed
namespace Go.Proofs.Ytbibmgcklilpmaa
open Go.RowKit Go.Lap

/-- A version is told, its data in a row of its own. -/
def TupPost (w : World) (t : Tup) (e : Ending) (w' : World) : Prop :=
  ∃ A c, e = .returned (tupV t A c) ∧ Fresh w w' (.slice A t.data.length c) t.data

theorem wrap_back (n : Nat) (x : Int) (h : n = (x + 1).toNat) (h0 : -1 ≤ x) (h1 : x ≤ 65536) : IntKind.i64.wrap (IntKind.i64.wrap (n : Int) - 1) = x := by
  rw [IntKind.wrap_i64, IntKind.wrap_i64]
  omega

theorem data_rd {w : World} {b f : Nat} {t : Tup} {g : Nat → Nat} (hb : Bk w b 512 pageT g) (hv : ∀ j, j < t.size → g (f + j) = t.ver j) (hf : f + t.size ≤ 512) : Rd w (· = b) 1 (some ⟨b, f + 30, none⟩) t.data.length (bytesV t.data) := by
  refine ⟨by simp [bytesV], fun _ => ⟨b, f + 30, rfl, rfl, fun j u hu => ?_⟩⟩
  unfold bytesV at hu
  rw [List.getElem?_map] at hu
  rcases hx : t.data[j]? with _ | x
  · rw [hx] at hu; cases hu
  · have hj : j < t.data.length := (List.getElem?_eq_some_iff.1 hx).1
    have hts : t.size = 30 + t.data.length := rfl
    rw [hx] at hu
    rw [hb.cell (by omega), show f + 30 + j = f + (30 + j) by omega, hv (30 + j) (by omega), Tup.ver, if_neg (by omega), Nat.add_sub_cancel_left, List.getD_eq_getElem?_getD, hx]
    exact hu

theorem fresh_after {w w5 W6 : World} {o : Obj} {v : Value} {l : List Nat} (h : Fresh (w.alloc o).drew w5 v l) (ho : Only (· = w.heap.size) w5 W6) : Fresh w W6 v l := by
  refine ⟨((((Only.refl _ _).alloc o).drew).trans h.quiet).trans' ho (fun k hk e => by omega), fun k e => ?_, owns_kept h.own ho (fun k e x => ?_)⟩
  · have := h.new k e
    simp at this
    omega
  · have := h.new k e
    simp at this
    omega

theorem tupPost_mk {w W : World} {t : Tup} {A : Option Addr} {c : Nat} (h : Fresh w W (.slice A t.data.length c) t.data) :
    TupPost w t (.returned (.agg #[.int .u64 t.row, .int .u64 t.xmin, .int .u64 t.xmax, .int .i64 t.pg, .int .i64 t.sl, .slice A t.data.length c])) W := ⟨A, c, rfl, h⟩

theorem info_tup : (Try.prog.info? 54).map (·.size) = some 6 := by kernel_rfl

theorem und_bytes : Try.prog.underlying 48 = some (.slice (Try.prog.elem 48)) := by kernel_rfl
theorem size_elem_bytes (w : World) : (sizeOf (Try.prog.elem 48)).run Try.prog w = .ok 1 w := by kernel_rfl

/-- 'b[30:]'. -/
theorem slice30 (b f dl C : Nat) (hC : ¬ C = 30) (w : World) :
    (Instr.slice 48 (.slice (some ⟨b, f, none⟩) (30 + dl) C) (some (.int .i64 30)) none none).run Try.prog w = .ok (.slice (some ⟨b, f + 30, none⟩) dl (C - 30)) w := by
  rw [run_slice_l w _ _ _ _ und_bytes _ _ (by omega) (by omega), size_elem_bytes]
  simp [sliced, hC, add_none]

theorem slice30' (b f dl : Nat) (w : World) :
    (Instr.slice 48 (.slice (some ⟨b, f, none⟩) (30 + dl) 30) (some (.int .i64 30)) none none).run Try.prog w = .ok (.slice (some ⟨b, f, none⟩) dl 0) w := by
  rw [run_slice_l w _ _ _ _ und_bytes _ _ (by omega) (by omega), size_elem_bytes]
  simp [sliced]

set_option maxHeartbeats 1000000 in
set_option maxRecDepth 100000 in
theorem unpack_any (b f C : Nat) (t : Tup) (g : Nat → Nat) (w : World) (hb : Bk w b 512 pageT g) (hg : ∀ i, g i < 256) (ht : t.Ok) (hv : ∀ j, j < t.size → g (f + j) = t.ver j) (hf : f + t.size ≤ 512) (hC : 30 + t.data.length ≤ C) :
    Calls Try.prog 85 #[.slice (some ⟨b, f, none⟩) (30 + t.data.length) C] w (TupPost w t) := by
  have hbd := ht.bounds
  have hts : 30 + t.data.length + f ≤ 512 := by have : t.size = 30 + t.data.length := rfl; omega
  have HRD := Lib.hid (Tup.read ht hv)
  have HG := Lib.hid hg
  have HDT := Lib.hid (data_rd hb hv hf)
  have HB := Lib.hid hb
  clear hb hg hv hf ht
  have b1 : (8 : Int) ≤ C := by omega
  have b2 : (16 : Int) ≤ C := by omega
  have b3 : (24 : Int) ≤ C := by omega
  have b4 : (28 : Int) ≤ C := by omega
  have b5 : (30 : Int) ≤ C := by omega
  have n1 : ¬ C = 8 := by omega
  have n2 : ¬ C = 16 := by omega
  have n3 : ¬ C = 24 := by omega
  have n4 : ¬ C = 28 := by omega
  obtain ⟨fo, hs30, HDO⟩ : ∃ fo, (∀ W : World, (Instr.slice 48 (.slice (some ⟨b, f, none⟩) (30 + t.data.length) C) (some (.int .i64 30)) none none).run Try.prog W = .ok (.slice (some ⟨b, fo, none⟩) t.data.length (C - 30)) W) ∧ Hid (Rd w (· = b) 1 (some ⟨b, fo, none⟩) t.data.length (bytesV t.data)) := by
    by_cases h30 : C = 30
    · subst h30
      have hd0 : t.data = [] := List.eq_nil_of_length_eq_zero (by omega)
      exact ⟨f, fun W => slice30' b f _ W, by rw [hd0]; exact Rd.nil _ _ _ _⟩
    · exact ⟨f + 30, fun W => slice30 b f _ C h30 W, HDT.out⟩
  clear HDT
  · have hnum : ∀ (off n c : Nat) (W : World), Bk W b 512 pageT g → n ≤ 8 → off + n ≤ 512 → Calls Try.prog 101 #[.slice (some ⟨b, off, none⟩) n c] W fun e w' => e = .returned (.int .u64 (leNum g off n)) ∧ W = w' := fun off n c W h1 h2 h3 => num_any b 512 off n c pageT g W h1 HG.out h2 h3 (by omega)
    have HN := Lib.hid hnum
    clear hnum
    go_enter Try.func85, Try.ntmps85
    go_wp2_with fail
    go_region_held3 (fun _ => True) (trivial)
      (first
        | (go_at_call 101; go_must ((with_reducible refine (HN.out _ _ _ _ ?_ ?_ ?_).mono ?_); (exact alloc_old HB.out _); omega; omega; rintro e w4 ⟨rfl, rfl⟩))
        | (go_at_call 97; go_must ((with_reducible refine (clone_any _ _ t.data (· = b) _ ?_ ?_).mono ?_); (exact (HDO.out.kept (((Only.refl (fun _ => False) w).alloc _).drew) (fun _ _ x => x))); omega; rintro e w5 ⟨v, rfl, hfr⟩; obtain ⟨A', c', hv', _⟩ := own_form hfr.own; subst hv'; obtain ⟨hc2, hf2⟩ := qcell hfr.quiet; have HFR := Lib.hid hfr; clear hfr))
        | fail)
    rw [HRD.out.1, HRD.out.2.1, HRD.out.2.2.1, wrap_back _ t.pg HRD.out.2.2.2.1 (by omega) (by omega), wrap_back _ t.sl HRD.out.2.2.2.2 (by omega) (by omega)]
    have hres : w5.heap[w.heap.size]? = _ := HFR.out.quiet.get (alloc_new w _) (fun x => x)
    have HX := Lib.hid (sixSet_same hres (.int .u64 t.row) (.int .u64 t.xmin) (.int .u64 t.xmax) (.int .i64 t.pg) (.int .i64 t.sl) (.slice A' t.data.length c'))
    have HF6 := Lib.hid (fresh_after HFR.out (sixSet_only w5 w.heap.size (.int .u64 t.row) (.int .u64 t.xmin) (.int .u64 t.xmax) (.int .i64 t.pg) (.int .i64 t.sl) (.slice A' t.data.length c')))
    clear hc2 hf2 hres HFR
    unfold sixSet at HX HF6
    generalize (((((w5.setCell ⟨w.heap.size, 0, none⟩ (.int .u64 t.row)).setCell ⟨w.heap.size, 1, none⟩ (.int .u64 t.xmin)).setCell ⟨w.heap.size, 2, none⟩ (.int .u64 t.xmax)).setCell ⟨w.heap.size, 3, none⟩ (.int .i64 t.pg)).setCell ⟨w.heap.size, 4, none⟩ (.int .i64 t.sl)).setCell ⟨w.heap.size, 5, none⟩ (.slice A' t.data.length c') = W6 at HX HF6 ⊢
    go_wp2
    exact bodyPost_ret (results_cell_row Try.results85 _ _ w.heap.size _ _ (0, 0) _ (by rfl) HX.out Try.underlying54 rfl info_tup) (by rfl) (tupPost_mk HF6.out)



end Go.Proofs.Ytbibmgcklilpmaa
