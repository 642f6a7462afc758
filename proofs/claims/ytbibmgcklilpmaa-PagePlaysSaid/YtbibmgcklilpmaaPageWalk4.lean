/- The contracts of package page: pack. No condition. -/
import Derived.Test.YtbibmgcklilpmaaPageWalk3
import Derived.Deep.RegionHeld3
import Derived.Laws.CopyRow
import Derived.Lib.SliceRun
namespace Go.Proofs.Ytbibmgcklilpmaa
open Go.RowKit Go.Lap

theorem make30 (w : World) : (Instr.makeSlice 48 (.int .i64 30) (.int .i64 30)).run Try.prog w = .ok (.slice (some ⟨w.heap.size, 0, none⟩) 30 30) (w.alloc (.cells (tab 30 (byteF (fun _ => 0))) 5)) := by kernel_rfl

theorem elem_u8 : Elem Try.prog 48 5 1 1 := Elem.mk' (.int .u8 0) Try.underlying48 (by kernel_rfl) rfl (by decide)

/-- In pack: the version in its box, thirty bytes under way. -/
structure PackW (w W : World) (row xmin xmax : Nat) (pg sl : Int) (A : Option Addr) (n cap : Nat) (g : Nat → Nat) : Prop where
  quiet : Quiet w W
  box : W.heap[w.heap.size]? = some (.cells #[.int .u64 row, .int .u64 xmin, .int .u64 xmax, .int .i64 pg, .int .i64 sl, .slice A n cap] 54 (0, 0))
  out : Bk W (w.heap.size + 1) 30 5 g

theorem PackW.drew {w W : World} {row xmin xmax : Nat} {pg sl : Int} {A : Option Addr} {n cap : Nat} {g : Nat → Nat} (h : PackW w W row xmin xmax pg sl A n cap g) : PackW w W.drew row xmin xmax pg sl A n cap g := ⟨h.quiet.drew, h.box, h.out⟩

theorem PackW.put {w W W' : World} {row xmin xmax : Nat} {pg sl : Int} {A : Option Addr} {n cap : Nat} {g g' : Nat → Nat} (h : PackW w W row xmin xmax pg sl A n cap g) (ho : Only (· = w.heap.size + 1) W W') (hb : Bk W' (w.heap.size + 1) 30 5 g') : PackW w W' row xmin xmax pg sl A n cap g' :=
  ⟨h.quiet.trans' ho (fun k hk e => by omega), ho.get h.box (fun e => by omega), hb⟩

theorem PackW.cell0 {w W : World} {row xmin xmax : Nat} {pg sl : Int} {A : Option Addr} {n cap : Nat} {g : Nat → Nat} (h : PackW w W row xmin xmax pg sl A n cap g) : W.cell? ⟨w.heap.size, 0, none⟩ = some (.int .u64 row) := by rw [cell_of h.box]; rfl
theorem PackW.cell1 {w W : World} {row xmin xmax : Nat} {pg sl : Int} {A : Option Addr} {n cap : Nat} {g : Nat → Nat} (h : PackW w W row xmin xmax pg sl A n cap g) : W.cell? ⟨w.heap.size, 1, none⟩ = some (.int .u64 xmin) := by rw [cell_of h.box]; rfl
theorem PackW.cell2 {w W : World} {row xmin xmax : Nat} {pg sl : Int} {A : Option Addr} {n cap : Nat} {g : Nat → Nat} (h : PackW w W row xmin xmax pg sl A n cap g) : W.cell? ⟨w.heap.size, 2, none⟩ = some (.int .u64 xmax) := by rw [cell_of h.box]; rfl
theorem PackW.cell3 {w W : World} {row xmin xmax : Nat} {pg sl : Int} {A : Option Addr} {n cap : Nat} {g : Nat → Nat} (h : PackW w W row xmin xmax pg sl A n cap g) : W.cell? ⟨w.heap.size, 3, none⟩ = some (.int .i64 pg) := by rw [cell_of h.box]; rfl
theorem PackW.cell4 {w W : World} {row xmin xmax : Nat} {pg sl : Int} {A : Option Addr} {n cap : Nat} {g : Nat → Nat} (h : PackW w W row xmin xmax pg sl A n cap g) : W.cell? ⟨w.heap.size, 4, none⟩ = some (.int .i64 sl) := by rw [cell_of h.box]; rfl
theorem PackW.cell5 {w W : World} {row xmin xmax : Nat} {pg sl : Int} {A : Option Addr} {n cap : Nat} {g : Nat → Nat} (h : PackW w W row xmin xmax pg sl A n cap g) : W.cell? ⟨w.heap.size, 5, none⟩ = some (.slice A n cap) := by rw [cell_of h.box]; rfl

def firstV (n : Nat) (g : Nat → Nat) : List Value := ((List.range n).map g).map (fun x : Nat => Value.int .u8 x)

def bytesV (l : List Nat) : List Value := l.map (fun x : Nat => Value.int .u8 x)

theorem one_bytes (l : List Nat) : ∀ u ∈ bytesV l, u.oneCell' = true := by
  intro u hu
  obtain ⟨n, _, rfl⟩ := List.mem_map.1 hu
  rfl

theorem PackW.owns {w W : World} {row xmin xmax : Nat} {pg sl : Int} {A : Option Addr} {n cap : Nat} {g : Nat → Nat} (h : PackW w W row xmin xmax pg sl A n cap g) : W.ownsRow 0 5 1 (.slice (some ⟨w.heap.size + 1, 0, none⟩) 30 30) 30 (firstV 30 g) := by
  refine ⟨by simp [firstV], Or.inr ⟨_, 30, _, rfl, Nat.zero_le _, h.out, Nat.le_refl _, by decide, by simp [tab_size], ?_⟩⟩
  apply List.ext_getElem?
  intro i
  rw [List.getElem?_take]
  by_cases hi : i < 30
  · rw [if_pos (by omega), Array.getElem?_toList, tab_get hi]
    simp [firstV, hi, byteF]
  · rw [if_neg (by omega)]
    simp [firstV, hi]

theorem two_new (w : World) (a o : Obj) : ((w.alloc a).alloc o).heap[w.heap.size + 1]? = some o := by
  have h := alloc_new (w.alloc a) o
  have e : (w.alloc a).heap.size = w.heap.size + 1 := by simp
  rw [e] at h
  exact h

theorem put_eq (b N off n cap x : Nat) (y : Int) (t : TypeId) (g : Nat → Nat) (w : World) (hb : Bk w b N t g) (hn : n ≤ 8) (hN : off + n ≤ N) (hm : N ≤ 1000) (hy : y = x) (hx : x < 18446744073709551616) :
    Calls Try.prog 84 #[.slice (some ⟨b, off, none⟩) n cap, .int .u64 y] w fun e w' => e = .returned (.tuple #[]) ∧ Only (· = b) w w' ∧ Bk w' b N t (putN g off n x) := by
  subst hy
  exact put_any b N off n cap x t g w hb hn hN hm hx

theorem wrap_next (x : Int) (h0 : -1 ≤ x) (h1 : x ≤ 65536) : IntKind.u64.wrap (IntKind.i64.wrap (x + 1)) = ((x + 1).toNat : Int) := by
  rw [IntKind.wrap_i64, IntKind.wrap_u64]
  omega

theorem put_int (b N off n cap : Nat) (x : Int) (t : TypeId) (g : Nat → Nat) (w : World) (hb : Bk w b N t g) (hn : n ≤ 8) (hN : off + n ≤ N) (hm : N ≤ 1000) (h0 : 0 ≤ x) (hx : x < 18446744073709551616) :
    Calls Try.prog 84 #[.slice (some ⟨b, off, none⟩) n cap, .int .u64 x] w fun e w' => e = .returned (.tuple #[]) ∧ Only (· = b) w w' ∧ Bk w' b N t (putN g off n x.toNat) := by
  obtain ⟨k, rfl⟩ := Int.eq_ofNat_of_zero_le h0
  rw [Int.toNat_natCast]
  exact put_any b N off n cap k t g w hb hn hN hm (by omega)

def PackPost (w : World) (t : Tup) (e : Ending) (w' : World) : Prop :=
  ∃ v, e = .returned v ∧ Quiet w w' ∧ (∀ k, v.ownBlock = some k → w.heap.size ≤ k) ∧ w'.ownsRow 0 5 1 v t.size (firstV t.size t.ver)

theorem pack_bytes (t : Tup) : firstV 30 t.hdr ++ bytesV t.data = firstV t.size t.ver := by
  unfold bytesV firstV
  rw [← List.map_append]
  congr 1
  unfold Tup.size
  apply List.ext_getElem?
  intro i
  rw [List.getElem?_append, List.length_map, List.length_range]
  by_cases hi : i < 30
  · simp [hi, Tup.ver, show i < 30 + t.data.length by omega]
  · rw [if_neg hi]
    by_cases h2 : i < 30 + t.data.length
    · simp [h2, Tup.ver, hi, List.getD_eq_getElem?_getD, show i - 30 < t.data.length by omega]
    · simp [h2, show ¬ i - 30 < t.data.length by omega]

set_option maxHeartbeats 1000000 in
set_option maxRecDepth 100000 in
theorem pack_any (t : Tup) (A : Option Addr) (cap : Nat) (S : Nat → Prop) (w : World) (ht : t.Ok) (hd : Rd w S 1 A t.data.length (bytesV t.data)) :
    Calls Try.prog 77 #[tupV t A cap] w (PackPost w t) := by
  have hmk := make30
  have hbd := ht.bounds
  have HD := Lib.hid hd
  have HPB := Lib.hid (pack_bytes t)
  obtain ⟨H, hH⟩ : ∃ H, H = t.hdr := ⟨_, rfl⟩
  have HH := Lib.hid (show H = putN (putN (putN (putN (putN (fun _ => 0) 0 8 t.row) 8 8 t.xmin) 16 8 t.xmax) 24 4 (t.pg + 1).toNat) 28 2 (t.sl + 1).toNat from hH)
  rw [← hH] at HPB
  clear hd hH
  unfold tupV
  obtain ⟨row, xmin, xmax, pg, sl, data⟩ := t
  dsimp only at hbd HD HH HPB ⊢
  obtain ⟨b1, b2, b3, b4, b5, b6, b7, b8⟩ := hbd
  have hn : ∃ n, n = data.length := ⟨_, rfl⟩
  go_enter Try.func77, Try.ntmps77
  go_wp2_with fail
  have HW : Hid (PackW w ((w.alloc (.cells #[.int .u64 row, .int .u64 xmin, .int .u64 xmax, .int .i64 pg, .int .i64 sl, .slice A data.length cap] 54)).alloc (.cells (tab 30 (byteF (fun _ => 0))) 5)) row xmin xmax pg sl A data.length cap (fun _ => 0)) :=
    ⟨((Only.refl _ _).alloc _).alloc _, alloc_old (alloc_new _ _) _, two_new _ _ _⟩
  generalize (w.alloc (.cells #[.int .u64 row, .int .u64 xmin, .int .u64 xmax, .int .i64 pg, .int .i64 sl, .slice A data.length cap] 54)).alloc (.cells (tab 30 (byteF (fun _ => 0))) 5) = W at HW ⊢
  have c0 := HW.out.cell0
  go_region_held3 (fun w' => w'.cell? ⟨w.heap.size, 0, none⟩ = some (.int .u64 row)) (first | go_keep | exact H1.out.cell0 | fail)
    (first | (go_at_call 84; go_must (refine (put_any _ 30 0 8 _ row 5 _ _ HW.out.drew.out (by omega) (by omega) (by omega) (by omega)).mono ?_; rintro e w1 ⟨rfl, ho, hb⟩; have H1 := Lib.hid (HW.out.drew.put ho hb); clear ho hb)) | fail)
  clear c0 HW
  go_wp2_with fail
  have c1 := H1.out.cell1
  go_region_held3 (fun w' => w'.cell? ⟨w.heap.size, 1, none⟩ = some (.int .u64 xmin)) (first | go_keep | exact H2.out.cell1 | fail)
    (first | (go_at_call 84; go_must ((with_reducible refine (put_any _ 30 8 8 _ xmin 5 _ _ H1.out.drew.out (by omega) (by omega) (by omega) (by omega)).mono ?_); rintro e w2 ⟨rfl, ho, hb⟩; have H2 := Lib.hid (H1.out.drew.put ho hb); clear ho hb)) | fail)
  clear c1 H1
  go_wp2_with fail
  have c2 := H2.out.cell2
  go_region_held3 (fun w' => w'.cell? ⟨w.heap.size, 2, none⟩ = some (.int .u64 xmax)) (first | go_keep | exact H3.out.cell2 | fail)
    (first | (go_at_call 84; go_must ((with_reducible refine (put_any _ 30 16 8 _ xmax 5 _ _ H2.out.drew.out (by omega) (by omega) (by omega) (by omega)).mono ?_); rintro e w3 ⟨rfl, ho, hb⟩; have H3 := Lib.hid (H2.out.drew.put ho hb); clear ho hb)) | fail)
  clear c2 H2
  go_wp2_with fail
  have c3 := H3.out.cell3
  go_region_held3 (fun w' => w'.cell? ⟨w.heap.size, 3, none⟩ = some (.int .i64 pg)) (first | go_keep | exact H4.out.cell3 | fail)
    (first | (go_at_call 84; go_must ((with_reducible refine (put_eq _ 30 24 4 _ (pg + 1).toNat _ 5 _ _ H3.out.drew.out (by omega) (by omega) (by omega) (wrap_next pg b4 (by omega)) (by omega)).mono ?_); rintro e w4 ⟨rfl, ho, hb⟩; have H4 := Lib.hid (H3.out.drew.put ho hb); clear ho hb)) | fail)
  clear c3 H3
  go_wp2_with fail
  have c4 := H4.out.cell4
  go_region_held3 (fun w' => w'.cell? ⟨w.heap.size, 4, none⟩ = some (.int .i64 sl)) (first | go_keep | exact H5.out.cell4 | fail)
    (first | (go_at_call 84; go_must ((with_reducible refine (put_eq _ 30 28 2 _ (sl + 1).toNat _ 5 _ _ H4.out.drew.out (by omega) (by omega) (by omega) (wrap_next sl b6 (by omega)) (by omega)).mono ?_); rintro e w5 ⟨rfl, ho, hb⟩; have H5 := Lib.hid (H4.out.drew.put ho hb); clear ho hb)) | fail)
  clear c4 H4
  have c5 := H5.out.cell5
  have HF : Hid (PackW w w5 row xmin xmax pg sl A data.length cap H) := by
    have := H5.out
    rw [HH.out]
    exact this
  have HDD := Lib.hid (HD.out.kept HF.out.quiet (fun _ _ x => x))
  clear H5
  go_wp2_with (at_builtin; refine app elem_u8 rfl (.tmp 36) (.tmp 38) rfl rfl HF.out.owns rfl HDD.out (one_bytes _) (by unfold maxLen; omega) (by omega) ?_)
  intro v w6 hG
  have HG := Lib.hid hG
  clear hG
  go_wp2
  go_ret
  refine ⟨v, rfl, HF.out.quiet.trans' HG.out.only (fun k hk e => ?_), fun k e => ?_, ?_⟩
  · simp [Value.ownBlock] at e; omega
  · rcases HG.out.loc with x | x <;> rw [x] at e
    · simp [Value.ownBlock] at e; omega
    · injection e with e; have := HF.out.quiet.size; omega
  · have := HG.out.own
    rw [HPB.out] at this
    exact this
end Go.Proofs.Ytbibmgcklilpmaa
