/- The contract of page.Get. No condition. -/
import Derived.Test.YtbibmgcklilpmaaPageGet
namespace Go.Proofs.Ytbibmgcklilpmaa
open Go.RowKit Go.Lap

section
variable {P : Program}
theorem results_cell_tmp {fn : Func} {p q : Tmp} {ty : TypeId} (h : fn.results = #[.cell p ty, .tmp q]) (tmps : Array Value) (w : World) (g : Nat) (t : TypeId) (cs : Array Value) (fr : Nat × Nat) (d : TypeDesc)
    (hp : tmps.getD p undef = .pointer (some ⟨g, 0, none⟩)) (hg : w.heap[g]? = some (.cells cs t fr))
    (hu : P.underlying ty = some d) (hd : (match d with | .struct _ | .array _ _ => true | _ => false) = true) (hi : (P.info? ty).map (·.size) = some cs.size) :
    (results fn tmps).run P w = .ok (.tuple #[.agg cs, tmps.getD q undef]) w := by
  have hp' : tmps[p]?.getD undef = .pointer (some ⟨g, 0, none⟩) := by simpa using hp
  simp [results, h, hp', asAddr, run_loadVar_row w g t ty cs fr d hg hu hd hi]
end

theorem six_zero (w : World) (n : Nat) : ((((((((w.alloc (.cells #[.int .u64 0, .int .u64 0, .int .u64 0, .int .i64 0, .int .i64 0, .slice none 0 0] 54)).drewN n).setCell ⟨w.heap.size, 0, none⟩ (.int .u64 0)).setCell ⟨w.heap.size, 1, none⟩ (.int .u64 0)).setCell ⟨w.heap.size, 2, none⟩ (.int .u64 0)).setCell ⟨w.heap.size, 3, none⟩ (.int .i64 0)).setCell ⟨w.heap.size, 4, none⟩ (.int .i64 0)).setCell ⟨w.heap.size, 5, none⟩ (.slice none 0 0)).heap[w.heap.size]? = some (.cells #[.int .u64 0, .int .u64 0, .int .u64 0, .int .i64 0, .int .i64 0, .slice none 0 0] 54 (0, 0)) ∧ Quiet w ((((((((w.alloc (.cells #[.int .u64 0, .int .u64 0, .int .u64 0, .int .i64 0, .int .i64 0, .slice none 0 0] 54)).drewN n).setCell ⟨w.heap.size, 0, none⟩ (.int .u64 0)).setCell ⟨w.heap.size, 1, none⟩ (.int .u64 0)).setCell ⟨w.heap.size, 2, none⟩ (.int .u64 0)).setCell ⟨w.heap.size, 3, none⟩ (.int .i64 0)).setCell ⟨w.heap.size, 4, none⟩ (.int .i64 0)).setCell ⟨w.heap.size, 5, none⟩ (.slice none 0 0)) :=
  ⟨sixSet_same (w := (w.alloc (.cells #[.int .u64 0, .int .u64 0, .int .u64 0, .int .i64 0, .int .i64 0, .slice none 0 0] 54)).drewN n) (alloc_new w _) _ _ _ _ _ _, (((Only.refl (fun _ => False) w).alloc (.cells #[.int .u64 0, .int .u64 0, .int .u64 0, .int .i64 0, .int .i64 0, .slice none 0 0] 54)).drewN n).trans' (sixSet_only ((w.alloc (.cells #[.int .u64 0, .int .u64 0, .int .u64 0, .int .i64 0, .int .i64 0, .slice none 0 0] 54)).drewN n) w.heap.size _ _ _ _ _ _) (fun k hk e => by omega)⟩

theorem fresh_on {w W1 w5 W6 : World} {v : Value} {l : List Nat} (hq : Quiet w W1) (hs : w.heap.size < W1.heap.size) (h : Fresh W1 w5 v l) (ho : Only (· = w.heap.size) w5 W6) : Fresh w W6 v l := by
  refine ⟨(hq.trans h.quiet).trans' ho (fun k hk e => by omega), fun k e => ?_, owns_kept h.own ho (fun k e x => ?_)⟩
  · have := h.new k e
    omega
  · have := h.new k e
    omega

/-- What Get tells. -/
def GetNone (w : World) (e : Ending) (w' : World) : Prop :=
  e = .returned (.tuple #[.agg #[.int .u64 0, .int .u64 0, .int .u64 0, .int .i64 0, .int .i64 0, .slice none 0 0], .bool false]) ∧ Quiet w w'
def GetSome (w : World) (t : Tup) (e : Ending) (w' : World) : Prop :=
  ∃ A c, e = .returned (.tuple #[tupV t A c, .bool true]) ∧ Fresh w w' (.slice A t.data.length c) t.data

theorem getSome_mk {w W : World} {t : Tup} {A : Option Addr} {c : Nat} (h : Fresh w W (.slice A t.data.length c) t.data) :
    GetSome w t (.returned (.tuple #[.agg #[.int .u64 t.row, .int .u64 t.xmin, .int .u64 t.xmax, .int .i64 t.pg, .int .i64 t.sl, .slice A t.data.length c], .bool true])) W := ⟨A, c, rfl, h⟩

theorem page_get_nil (i : Int) (w : World) : Calls Try.prog 37 #[.pointer none, .int .i64 i] w (GetNone w) := by
  have heq := fun (w : World) (a : Option Addr) (n c : Nat) => Lib.run_eql_slice_nil (P := Try.prog) w 48 _ a n c 0 0 Try.underlying48
  go_enter Try.func37, Try.ntmps37
  go_wp2_with fail
  refine (bytes_nil i _).mono ?_
  rintro e w1 ⟨rfl, n, rfl⟩
  go_wp2
  have HZ := Lib.hid (six_zero w n)
  generalize (((((((w.alloc (.cells #[.int .u64 0, .int .u64 0, .int .u64 0, .int .i64 0, .int .i64 0, .slice none 0 0] 54)).drewN n).setCell ⟨w.heap.size, 0, none⟩ (.int .u64 0)).setCell ⟨w.heap.size, 1, none⟩ (.int .u64 0)).setCell ⟨w.heap.size, 2, none⟩ (.int .u64 0)).setCell ⟨w.heap.size, 3, none⟩ (.int .i64 0)).setCell ⟨w.heap.size, 4, none⟩ (.int .i64 0)).setCell ⟨w.heap.size, 5, none⟩ (.slice none 0 0) = W6 at HZ ⊢
  exact bodyPost_ret (results_cell_tmp Try.results37 _ _ w.heap.size _ _ (0, 0) _ (by rfl) HZ.out.1 Try.underlying54 rfl info_tup) (by rfl) ⟨rfl, HZ.out.2⟩

theorem page_get_none (b st : Nat) (L : List Slot) (i : Int) (w : World) (h : PageAt w b L st) (hi : slotAt L i = none) : Calls Try.prog 37 #[.pointer (some ⟨b, 0, none⟩), .int .i64 i] w (GetNone w) := by
  have heq := fun (w : World) (a : Option Addr) (n c : Nat) => Lib.run_eql_slice_nil (P := Try.prog) w 48 _ a n c 0 0 Try.underlying48
  have HP := Lib.hid (h.kept ((Only.refl (fun _ => False) w).alloc (.cells #[.int .u64 0, .int .u64 0, .int .u64 0, .int .i64 0, .int .i64 0, .slice none 0 0] 54)) (fun x => x))
  have HI := Lib.hid hi
  clear h hi
  go_enter Try.func37, Try.ntmps37
  go_wp2_with fail
  refine (bytes_none b st L i _ HP.out HI.out).mono ?_
  rintro e w1 ⟨rfl, n, rfl⟩
  go_wp2
  have HZ := Lib.hid (six_zero w n)
  generalize (((((((w.alloc (.cells #[.int .u64 0, .int .u64 0, .int .u64 0, .int .i64 0, .int .i64 0, .slice none 0 0] 54)).drewN n).setCell ⟨w.heap.size, 0, none⟩ (.int .u64 0)).setCell ⟨w.heap.size, 1, none⟩ (.int .u64 0)).setCell ⟨w.heap.size, 2, none⟩ (.int .u64 0)).setCell ⟨w.heap.size, 3, none⟩ (.int .i64 0)).setCell ⟨w.heap.size, 4, none⟩ (.int .i64 0)).setCell ⟨w.heap.size, 5, none⟩ (.slice none 0 0) = W6 at HZ ⊢
  exact bodyPost_ret (results_cell_tmp Try.results37 _ _ w.heap.size _ _ (0, 0) _ (by rfl) HZ.out.1 Try.underlying54 rfl info_tup) (by rfl) ⟨rfl, HZ.out.2⟩

set_option maxHeartbeats 1000000 in
set_option maxRecDepth 100000 in
theorem page_get_some (b st f : Nat) (t : Tup) (L : List Slot) (i : Int) (w : World) (h : PageAt w b L st) (hi : slotAt L i = some (f, t)) : Calls Try.prog 37 #[.pointer (some ⟨b, 0, none⟩), .int .i64 i] w (GetSome w t) := by
  have heq := fun (w : World) (a : Option Addr) (n c : Nat) => Lib.run_eql_slice_nil (P := Try.prog) w 48 _ a n c 0 0 Try.underlying48
  have HP := Lib.hid (h.kept ((Only.refl (fun _ => False) w).alloc (.cells #[.int .u64 0, .int .u64 0, .int .u64 0, .int .i64 0, .int .i64 0, .slice none 0 0] 54)) (fun x => x))
  have HI := Lib.hid hi
  obtain ⟨k, rfl, hk, hs⟩ := slotAt_some hi
  obtain ⟨g, hg, hp⟩ := HP.out
  obtain ⟨v1, v2, v3, v4⟩ := hp.ver k f t hs
  have HU : Hid (∀ n, Calls Try.prog 85 #[.slice (some ⟨b, f, none⟩) (30 + t.data.length) (512 - f)] ((w.alloc (.cells #[.int .u64 0, .int .u64 0, .int .u64 0, .int .i64 0, .int .i64 0, .slice none 0 0] 54)).drewN n) (TupPost ((w.alloc (.cells #[.int .u64 0, .int .u64 0, .int .u64 0, .int .i64 0, .int .i64 0, .slice none 0 0] 54)).drewN n) t)) := fun n => unpack_any b f (512 - f) t g _ hg hp.lt v3 v4 v2 (by have : t.size = 30 + t.data.length := rfl; omega)
  clear h hi hs hg hp v1 v2 v3 v4 hk
  go_enter Try.func37, Try.ntmps37
  go_wp2_with fail
  refine (bytes_some b st f t L _ _ HP.out HI.out).mono ?_
  rintro e w1 ⟨rfl, n, rfl⟩
  go_wp2_with fail
  rw [show t.size = 30 + t.data.length from rfl]
  refine (HU.out n).mono ?_
  rintro e w2 ⟨A', c', rfl, hfr⟩
  have hres : w2.heap[w.heap.size]? = _ := hfr.quiet.get (alloc_new w _) (fun x => x)
  have HX := Lib.hid (sixSet_same hres (.int .u64 t.row) (.int .u64 t.xmin) (.int .u64 t.xmax) (.int .i64 t.pg) (.int .i64 t.sl) (.slice A' t.data.length c'))
  have HF6 := Lib.hid (fresh_on (((Only.refl (fun _ => False) w).alloc (.cells #[.int .u64 0, .int .u64 0, .int .u64 0, .int .i64 0, .int .i64 0, .slice none 0 0] 54)).drewN n) (by show w.heap.size < (w.alloc _).heap.size; simp) hfr (sixSet_only w2 w.heap.size (.int .u64 t.row) (.int .u64 t.xmin) (.int .u64 t.xmax) (.int .i64 t.pg) (.int .i64 t.sl) (.slice A' t.data.length c')))
  obtain ⟨hc2, hf2⟩ := qcell hfr.quiet
  clear hfr HU hres
  unfold tupV
  go_wp2
  clear hc2 hf2
  unfold sixSet at HX HF6
  generalize ((((((w2).setCell ⟨w.heap.size, 0, none⟩ (.int .u64 t.row)).setCell ⟨w.heap.size, 1, none⟩ (.int .u64 t.xmin)).setCell ⟨w.heap.size, 2, none⟩ (.int .u64 t.xmax)).setCell ⟨w.heap.size, 3, none⟩ (.int .i64 t.pg)).setCell ⟨w.heap.size, 4, none⟩ (.int .i64 t.sl)).setCell ⟨w.heap.size, 5, none⟩ (.slice A' t.data.length c') = W6 at HX HF6 ⊢
  exact bodyPost_ret (results_cell_tmp Try.results37 _ _ w.heap.size _ _ (0, 0) _ (by rfl) HX.out Try.underlying54 rfl info_tup) (by rfl) (getSome_mk HF6.out)

end Go.Proofs.Ytbibmgcklilpmaa
