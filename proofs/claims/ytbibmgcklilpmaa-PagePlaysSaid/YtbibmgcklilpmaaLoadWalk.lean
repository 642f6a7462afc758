/- More of page's functions: unpack of any bytes, bytesAt, and what 'sound' calls. No condition. -/
import Derived.Test.YtbibmgcklilpmaaPageGet
import Derived.Test.YtbibmgcklilpmaaLoadPlain
import Derived.Test.YtbibmgcklilpmaaLast
namespace Go.Lap

/-- Parts in a row. -/
def partV (p : Nat × Nat) : List Value := [.int .i64 (p.1 : Int), .int .i64 (p.2 : Int)]
def partsV (P : List (Nat × Nat)) : List Value := P.flatMap partV

end Go.Lap
namespace Go.Proofs.Ytbibmgcklilpmaa
open Go.RowKit Go.Lap

theorem wrap_back2 (n : Nat) (x : Int) (h : n = (x + 1).toNat) (h0 : -1 ≤ x) (h1 : x ≤ 4294967296) : IntKind.i64.wrap (IntKind.i64.wrap (n : Int) - 1) = x := by
  rw [IntKind.wrap_i64, IntKind.wrap_i64]
  omega

/-- What bytes tell of a version, right or not. -/
structure Raw (g : Nat → Nat) (f : Nat) (t : Tup) : Prop where
  bd : -1 ≤ t.pg ∧ t.pg ≤ 4294967295 ∧ -1 ≤ t.sl ∧ t.sl ≤ 65535
  read : leNum g f 8 = t.row ∧ leNum g (f + 8) 8 = t.xmin ∧ leNum g (f + 16) 8 = t.xmax ∧ leNum g (f + 24) 4 = (t.pg + 1).toNat ∧ leNum g (f + 28) 2 = (t.sl + 1).toNat

theorem raw_tupG {g : Nat → Nat} (hg : ∀ i, g i < 256) (f n : Nat) : Raw g f (tupG g f n) := by
  have h4 : leNum g (f + 24) 4 < 256 ^ 4 := leNum_lt hg _ _
  have h2 : leNum g (f + 28) 2 < 256 ^ 2 := leNum_lt hg _ _
  refine ⟨?_, rfl, rfl, rfl, ?_, ?_⟩
  · show -1 ≤ (leNum g (f + 24) 4 : Int) - 1 ∧ (leNum g (f + 24) 4 : Int) - 1 ≤ 4294967295 ∧ -1 ≤ (leNum g (f + 28) 2 : Int) - 1 ∧ (leNum g (f + 28) 2 : Int) - 1 ≤ 65535
    omega
  · show _ = ((leNum g (f + 24) 4 : Int) - 1 + 1).toNat
    omega
  · show _ = ((leNum g (f + 28) 2 : Int) - 1 + 1).toNat
    omega

set_option maxHeartbeats 1000000 in
set_option maxRecDepth 100000 in
/-- Whatever bytes: they tell a version, right or not. -/
theorem unpack_raw (b f C : Nat) (t : Tup) (g : Nat → Nat) (w : World) (hb : Bk w b 512 pageT g) (hg : ∀ i, g i < 256) (ht : Raw g f t) (hv : ∀ j, j < t.size → g (f + j) = t.ver j) (hf : f + t.size ≤ 512) (hC : 30 + t.data.length ≤ C) :
    Calls Try.prog 85 #[.slice (some ⟨b, f, none⟩) (30 + t.data.length) C] w (TupPost w t) := by
  have hbd := ht.bd
  have hts : 30 + t.data.length + f ≤ 512 := by have : t.size = 30 + t.data.length := rfl; omega
  have HRD := Lib.hid ht.read
  have HG := Lib.hid hg
  have HDT := Lib.hid (data_rd hb hv hf)
  have HB := Lib.hid hb
  clear hb hg hv hf ht
  have b1 : (8 : Int) ≤ C := by omega
  have b2 : (16 : Int) ≤ C := by omega
  have b3 : (24 : Int) ≤ C := by omega
  have b4 : (28 : Int) ≤ C := by omega
  have b5 : (30 : Int) ≤ C := by omega
  have n1 : ¬ C = 8 := by omega
  have n2 : ¬ C = 16 := by omega
  have n3 : ¬ C = 24 := by omega
  have n4 : ¬ C = 28 := by omega
  obtain ⟨fo, hs30, HDO⟩ : ∃ fo, (∀ W : World, (Instr.slice 48 (.slice (some ⟨b, f, none⟩) (30 + t.data.length) C) (some (.int .i64 30)) none none).run Try.prog W = .ok (.slice (some ⟨b, fo, none⟩) t.data.length (C - 30)) W) ∧ Hid (Rd w (· = b) 1 (some ⟨b, fo, none⟩) t.data.length (bytesV t.data)) := by
    by_cases h30 : C = 30
    · subst h30
      have hd0 : t.data = [] := List.eq_nil_of_length_eq_zero (by omega)
      exact ⟨f, fun W => slice30' b f _ W, by rw [hd0]; exact Rd.nil _ _ _ _⟩
    · exact ⟨f + 30, fun W => slice30 b f _ C h30 W, HDT.out⟩
  clear HDT
  · have hnum : ∀ (off n c : Nat) (W : World), Bk W b 512 pageT g → n ≤ 8 → off + n ≤ 512 → Calls Try.prog 101 #[.slice (some ⟨b, off, none⟩) n c] W fun e w' => e = .returned (.int .u64 (leNum g off n)) ∧ W = w' := fun off n c W h1 h2 h3 => num_any b 512 off n c pageT g W h1 HG.out h2 h3 (by omega)
    have HN := Lib.hid hnum
    clear hnum
    go_enter Try.func85, Try.ntmps85
    go_wp2_with fail
    go_region_held3 (fun _ => True) (trivial)
      (first
        | (go_at_call 101; go_must ((with_reducible refine (HN.out _ _ _ _ ?_ ?_ ?_).mono ?_); (exact alloc_old HB.out _); omega; omega; rintro e w4 ⟨rfl, rfl⟩))
        | (go_at_call 97; go_must ((with_reducible refine (clone_any _ _ t.data (· = b) _ ?_ ?_).mono ?_); (exact (HDO.out.kept (((Only.refl (fun _ => False) w).alloc _).drew) (fun _ _ x => x))); omega; rintro e w5 ⟨v, rfl, hfr⟩; obtain ⟨A', c', hv', _⟩ := own_form hfr.own; subst hv'; obtain ⟨hc2, hf2⟩ := qcell hfr.quiet; have HFR := Lib.hid hfr; clear hfr))
        | fail)
    rw [HRD.out.1, HRD.out.2.1, HRD.out.2.2.1, wrap_back2 _ t.pg HRD.out.2.2.2.1 (by omega) (by omega), wrap_back2 _ t.sl HRD.out.2.2.2.2 (by omega) (by omega)]
    have hres : w5.heap[w.heap.size]? = _ := HFR.out.quiet.get (alloc_new w _) (fun x => x)
    have HX := Lib.hid (sixSet_same hres (.int .u64 t.row) (.int .u64 t.xmin) (.int .u64 t.xmax) (.int .i64 t.pg) (.int .i64 t.sl) (.slice A' t.data.length c'))
    have HF6 := Lib.hid (fresh_after HFR.out (sixSet_only w5 w.heap.size (.int .u64 t.row) (.int .u64 t.xmin) (.int .u64 t.xmax) (.int .i64 t.pg) (.int .i64 t.sl) (.slice A' t.data.length c')))
    clear hc2 hf2 hres HFR
    unfold sixSet at HX HF6
    generalize (((((w5.setCell ⟨w.heap.size, 0, none⟩ (.int .u64 t.row)).setCell ⟨w.heap.size, 1, none⟩ (.int .u64 t.xmin)).setCell ⟨w.heap.size, 2, none⟩ (.int .u64 t.xmax)).setCell ⟨w.heap.size, 3, none⟩ (.int .i64 t.pg)).setCell ⟨w.heap.size, 4, none⟩ (.int .i64 t.sl)).setCell ⟨w.heap.size, 5, none⟩ (.slice A' t.data.length c') = W6 at HX HF6 ⊢
    go_wp2
    exact bodyPost_ret (results_cell_row Try.results85 _ _ w.heap.size _ _ (0, 0) _ (by rfl) HX.out Try.underlying54 rfl info_tup) (by rfl) (tupPost_mk HF6.out)

set_option maxHeartbeats 400000 in
set_option maxRecDepth 100000 in
theorem bytesAt_any (b i : Nat) (g : Nat → Nat) (w : World) (hb : Bk w b 512 pageT g) (hg : ∀ i, g i < 256) (hi : 8 + 4 * i ≤ 512) :
    Calls Try.prog 103 #[.pointer (some ⟨b, 0, none⟩), .int .i64 i] w fun e w' => e = .returned (.int .i64 (sizeG g i)) ∧ Quiet w w' := by
  have HA := Lib.hid (at_any b i g w hb hg hi)
  have e : leNum g (4 + 4 * i + 2) 2 = sizeG g i := by unfold sizeG; congr 1; omega
  rw [e] at HA
  clear hb hg e
  go_enter Try.func103, Try.ntmps103
  go_wp2_with fail
  refine HA.out.mono ?_
  rintro e w' ⟨rfl, n, rfl⟩
  go_wp2
  go_ret
  exact ⟨rfl, (Only.refl _ _).drewN n⟩

set_option maxHeartbeats 400000 in
theorem zero_any (x : Nat) (w : World) : Calls Try.prog 107 #[.int .u8 (x : Int)] w fun e w' => e = .returned (.bool (decide (x ≠ 0))) ∧ w = w' := by
  by_cases h : x = 0
  · subst h
    go_enter Try.func107, Try.ntmps107
    go_wp2
    go_ret
    exact ⟨rfl, rfl⟩
  · have h1 : ((x : Int) != 0) = true := by simp [h]
    have h2 : decide (x ≠ 0) = true := by simp [h]
    rw [h2]
    go_enter Try.func107, Try.ntmps107
    go_wp2
    go_ret
    exact ⟨rfl, rfl⟩

/-- Where the first byte is that isn't zero; -1: nowhere. -/
def IdxPost (z : Bool) (w : World) (e : Ending) (w' : World) : Prop := ∃ r : Int, e = .returned (.int .i64 r) ∧ decide (0 ≤ r) = z ∧ -1 ≤ r ∧ r ≤ 512 ∧ w = w'

def nzB (g : Nat → Nat) (f n : Nat) : Bool := (List.range n).any (fun j => decide (g (f + j) ≠ 0))

theorem nzB_true {g : Nat → Nat} {f n k : Nat} (hk : k < n) (h : g (f + k) ≠ 0) : nzB g f n = true := by
  unfold nzB
  rw [List.any_eq_true]
  exact ⟨k, List.mem_range.2 hk, by simpa using h⟩

theorem nzB_false {g : Nat → Nat} {f n : Nat} : nzB g f n = false ↔ ∀ k, k < n → g (f + k) = 0 := by
  unfold nzB
  rw [List.any_eq_false]
  constructor
  · intro h k hk
    have := h k (List.mem_range.2 hk)
    simpa using this
  · intro h x hx
    have := h x (List.mem_range.1 hx)
    simpa using this

set_option maxHeartbeats 400000 in
set_option maxRecDepth 100000 in
theorem index_any (b f n C : Nat) (g : Nat → Nat) (w : World) (hb : Bk w b 512 pageT g) (hf : f + n ≤ 512) :
    Calls Try.prog 110 #[.slice (some ⟨b, f, none⟩) n C, .func (.func 107) #[] #[]] w (IdxPost (nzB g f n) w) := by
  have HB := Lib.hid hb
  clear hb
  go_enter Try.func110, Try.ntmps110
  go_wp2
  go_loop [5, 8] (fun _ i => ∃ k : Nat, k ≤ n ∧ i = .int .i64 k ∧ ∀ j, j < k → g (f + j) = 0) (fun _ i => n - (intOf i).toNat)
  case atStart => exact ⟨0, Nat.zero_le _, rfl, fun j hj => by omega⟩
  case round =>
    obtain ⟨k, hk, rfl, hz⟩ := hrel
    have HZ := Lib.hid hz
    clear hz
    by_cases hlt : k < n
    · have hc := HB.out.cell (i := f + k) (by omega)
      unfold byteF at hc
      by_cases h0 : g (f + k) = 0
      · have HH := Lib.hid h0
        rw [h0] at hc
        have hcl := zero_any 0 w
        rw [show decide ((0 : Nat) ≠ 0) = false from rfl] at hcl
        have HCL := Lib.hid hcl
        clear h0 hcl
        go_wp2_with fail
        refine HCL.out.mono ?_
        rintro e w' ⟨rfl, rfl⟩
        go_wp2_with fail
        go_round
        case rel => exact ⟨k + 1, by omega, by go_num, fun j hj => by
          rcases Nat.lt_or_ge j k with h | h
          · exact HZ.out j h
          · have : j = k := by omega
            subst this
            exact HH.out⟩
        case measure => simp [intOf]; omega
      · have hcl := zero_any (g (f + k)) w
        rw [show decide (g (f + k) ≠ 0) = true from by simpa using h0] at hcl
        have HCL := Lib.hid hcl
        have HNZ := Lib.hid (nzB_true hlt h0)
        clear h0 hcl
        generalize g (f + k) = y at hc HCL
        go_wp2_with fail
        refine HCL.out.mono ?_
        rintro e w' ⟨rfl, rfl⟩
        go_wp2_with fail
        go_ret
        exact ⟨k, rfl, by rw [HNZ.out]; simp, by omega, by omega, rfl⟩
    · have HNZ : Hid (nzB g f n = false) := nzB_false.2 (fun j hj => HZ.out j (by omega))
      go_wp2_with fail
      go_ret
      exact ⟨-1, rfl, by rw [HNZ.out]; rfl, by omega, by omega, rfl⟩

set_option maxHeartbeats 400000 in
set_option maxRecDepth 100000 in
theorem contains_any (b f n C : Nat) (g : Nat → Nat) (w : World) (hb : Bk w b 512 pageT g) (hf : f + n ≤ 512) :
    Calls Try.prog 106 #[.slice (some ⟨b, f, none⟩) n C, .func (.func 107) #[] #[]] w fun e w' => e = .returned (.bool (nzB g f n)) ∧ w = w' := by
  have HI := Lib.hid (index_any b f n C g w hb hf)
  clear hb
  generalize nzB g f n = z at HI ⊢
  go_enter Try.func106, Try.ntmps106
  go_wp2_with fail
  refine HI.out.mono ?_
  rintro e w' ⟨r, rfl, hz, h1, h2, rfl⟩
  have HZ := Lib.hid hz
  clear hz
  go_wp2_with fail
  go_ret
  exact ⟨by rw [HZ.out]; rfl, rfl⟩

/-- 'p.b[l:h]', also at the end. -/
theorem page_range2 (b l h : Nat) (hlh : l ≤ h) (hh : h ≤ 512) : ∃ l', (l < 512 → l' = l) ∧ (l' + (h - l) ≤ 512) ∧ ∀ w : World,
    (Instr.sliceAt 137 (.pointer (some ⟨b, 0, none⟩)) (some (.int .i64 (l : Int))) (some (.int .i64 (h : Int))) none).run Try.prog w = .ok (.slice (some ⟨b, l', none⟩) (h - l) (512 - l)) w := by
  by_cases hl : l < 512
  · exact ⟨l, fun _ => rfl, by omega, fun w => page_range b l h l h rfl rfl hl hlh hh w⟩
  · obtain rfl : l = 512 := by omega
    obtain rfl : h = 512 := by omega
    refine ⟨0, fun h => by omega, by omega, fun w => ?_⟩
    rw [run_sliceAt_array_lh w _ _ und512 _ _ _ _ (by omega) (by omega) (by rw [arr512]; omega), size512]
    simp [slicedAt, arr512]

end Go.Proofs.Ytbibmgcklilpmaa
