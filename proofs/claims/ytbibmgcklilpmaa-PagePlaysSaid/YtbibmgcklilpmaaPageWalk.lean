/- The contracts of package page's inner functions on bytes: num, put, count, start, set, at, point, New. No condition. -/
import Derived.Test.YtbibmgcklilpmaaPagePlain2
import Derived.BigRegion
import Derived.BigQuiet
import Derived.Deep.QuietTactic
import Derived.Outline
import Derived.Laws.BitsAllLaws
namespace Go.Lap
open Go.RowKit

def byteF (g : Nat → Nat) (i : Nat) : Value := .int .u8 (g i)

/-- Block b is N bytes. -/
def Bk (w : World) (b N : Nat) (t : TypeId) (g : Nat → Nat) : Prop := w.heap[b]? = some (.cells (tab N (byteF g)) t (0, 0))

theorem Bk.cell {w : World} {b N : Nat} {t : TypeId} {g : Nat → Nat} (h : Bk w b N t g) {i : Nat} (hi : i < N) : w.cell? ⟨b, i, none⟩ = some (.int .u8 (g i)) := by
  rw [cell_of h, tab_get hi]; rfl
theorem Bk.frozen {w : World} {b N : Nat} {t : TypeId} {g : Nat → Nat} (h : Bk w b N t g) (i : Nat) : w.frozen? ⟨b, i, none⟩ = false := frozen_of h i
theorem Bk.kept {S : Nat → Prop} {w w' : World} {b N : Nat} {t : TypeId} {g : Nat → Nat} (h : Bk w b N t g) (ho : Only S w w') (hn : ¬ S b) : Bk w' b N t g := ho.get h hn
theorem Bk.lt {w : World} {b N : Nat} {t : TypeId} {g : Nat → Nat} (h : Bk w b N t g) : b < w.heap.size := lt_of_get h
theorem Bk.ext {w : World} {b N : Nat} {t : TypeId} {g g' : Nat → Nat} (h : Bk w b N t g) (he : ∀ i, i < N → g i = g' i) : Bk w b N t g' := by
  unfold Bk at *
  rw [h, tab_ext (g := byteF g') (fun i hi => by unfold byteF; rw [he i hi])]
theorem Bk.set {w : World} {b N : Nat} {t : TypeId} {g : Nat → Nat} (h : Bk w b N t g) (i x : Nat) : Bk (w.setCell ⟨b, i, none⟩ (.int .u8 x)) b N t (fun j => if j = i then x else g j) := by
  unfold Bk at *
  rw [set_same h, tab_set]
  congr 2
  apply tab_ext
  intro j _
  unfold byteF
  by_cases e : j = i <;> simp [e]

theorem or_low (v c : Nat) (hv : v < 72057594037927936) (hc : c < 256) : bits .or .u64 ((v : Int) * 256) (c : Int) = ((c + 256 * v : Nat) : Int) := by
  have h := u64_or_nat (v * 256) c (by omega) (by omega)
  rw [show (((v * 256 : Nat)) : Int) = (v : Int) * 256 by omega] at h
  rw [h]
  have e := Nat.two_pow_add_eq_or_of_lt (i := 8) (b := c) (by simpa using hc) v
  rw [show v * 256 = 2 ^ 8 * v by omega, ← e]
  omega

theorem shift_byte (x k : Nat) : (x : Int) / 2 ^ (8 * k) % 256 = ((x / 256 ^ k % 256 : Nat) : Int) := by
  have e : (2 : Int) ^ (8 * k) = ((256 ^ k : Nat) : Int) := by
    rw [Int.pow_mul]
    norm_cast
  rw [e, ← Int.natCast_ediv]
  rfl

theorem leNum_down {g : Nat → Nat} {off n k : Nat} (h0 : 0 < k) (hk : k ≤ n) : leNum g (off + (k - 1)) (n - (k - 1)) = g (off + (k - 1)) + 256 * leNum g (off + k) (n - k) := by
  rw [show n - (k - 1) = (n - k) + 1 by omega, leNum, show off + (k - 1) + 1 = off + k by omega]

end Go.Lap
namespace Go.Proofs.Ytbibmgcklilpmaa
open Go.RowKit Go.Lap

set_option maxHeartbeats 400000 in
set_option maxRecDepth 100000 in
theorem num_any (b N off n cap : Nat) (t : TypeId) (g : Nat → Nat) (w : World) (hb : Bk w b N t g) (hg : ∀ i, g i < 256) (hn : n ≤ 8) (hN : off + n ≤ N) (hm : N ≤ 1000) :
    Calls Try.prog 101 #[.slice (some ⟨b, off, none⟩) n cap] w fun e w' => e = .returned (.int .u64 (leNum g off n)) ∧ w = w' := by
  have HB := Lib.hid hb
  have HG := Lib.hid hg
  clear hb hg
  go_enter Try.func101, Try.ntmps101
  go_wp2
  go_loop [3, 4] (fun v i => ∃ k : Nat, k ≤ n ∧ i = .int .i64 ((k : Int) - 1) ∧ v = .int .u64 (leNum g (off + k) (n - k))) (fun _ i => ((intOf i) + 1).toNat)
  case atStart => exact ⟨n, Nat.le_refl _, by go_num, by simp [leNum]⟩
  case round =>
    obtain ⟨k, hk, rfl, rfl⟩ := hrel
    by_cases h0 : 0 < k
    · have hc := HB.out.cell (i := off + (k - 1)) (by omega)
      have hlt := leNum_lt HG.out (n - k) (off + k)
      have h8 := HG.out (off + (k - 1))
      obtain ⟨v, hv⟩ : ∃ v, v = leNum g (off + k) (n - k) := ⟨_, rfl⟩
      obtain ⟨c, hcc⟩ : ∃ c, c = g (off + (k - 1)) := ⟨_, rfl⟩
      rw [← hcc] at hc h8
      rw [← hv] at hlt ⊢
      have HV := Lib.hid hv
      have HCC := Lib.hid hcc
      have h56 : v < 72057594037927936 := by
        have : 256 ^ (n - k) ≤ 256 ^ 7 := Nat.pow_le_pow_right (by omega) (by omega)
        omega
      clear hv hcc hlt
      go_wp2
      go_round
      case rel =>
        refine ⟨k - 1, by omega, by rw [show ((k : Int) - 1 - 1) = ((k - 1 : Nat) : Int) - 1 by omega], ?_⟩
        rw [or_low v c h56 h8, leNum_down h0 hk, ← HV.out, ← HCC.out]
      case measure => simp [intOf]; omega
    · obtain rfl : k = 0 := by omega
      go_wp2
      go_ret
      exact ⟨by simp, rfl⟩

/-- In the loop of put: k bytes are laid. -/
def PutW (w wr : World) (b N off k x : Nat) (t : TypeId) (g : Nat → Nat) : Prop := Only (· = b) w wr ∧ Bk wr b N t (putN g off k x)

theorem PutW.next {w wr : World} {b N off k x : Nat} {t : TypeId} {g : Nat → Nat} (h : PutW w wr b N off k x t g) {c : Int} (hc : c = ((x / 256 ^ k % 256 : Nat) : Int)) : PutW w (wr.setCell ⟨b, off + k, none⟩ (.int .u8 c)) b N off (k + 1) x t g := by
  subst hc
  refine ⟨h.1.setCell (fun _ => rfl) _, (h.2.set _ _).ext (fun i _ => ?_)⟩
  unfold putN
  by_cases e : i = off + k
  · subst e
    rw [if_pos rfl, if_pos (by omega), Nat.add_sub_cancel_left]
  · rw [if_neg e]
    by_cases e2 : off ≤ i ∧ i < off + k
    · rw [if_pos e2, if_pos (by omega)]
    · rw [if_neg e2, if_neg (by omega)]

set_option maxHeartbeats 400000 in
set_option maxRecDepth 100000 in
theorem put_any (b N off n cap x : Nat) (t : TypeId) (g : Nat → Nat) (w : World) (hb : Bk w b N t g) (hn : n ≤ 8) (hN : off + n ≤ N) (hm : N ≤ 1000) (hx : x < 18446744073709551616) :
    Calls Try.prog 84 #[.slice (some ⟨b, off, none⟩) n cap, .int .u64 x] w fun e w' => e = .returned (.tuple #[]) ∧ Only (· = b) w w' ∧ Bk w' b N t (putN g off n x) := by
  have HB : Hid (PutW w w b N off 0 x t g) := ⟨Only.refl _ _, hb.ext (fun i _ => by unfold putN; rw [if_neg (by omega)])⟩
  clear hb
  go_enter Try.func84, Try.ntmps84
  go_wp2
  go_loopw [7] (fun v wr => ∃ k : Nat, k ≤ n ∧ v = .int .i64 k ∧ PutW w wr b N off k x t g) (fun v _ => n - (intOf v).toNat)
  case atStart => exact ⟨0, Nat.zero_le _, rfl, HB.out⟩
  case round =>
    obtain ⟨k, hk, rfl, hW⟩ := hrel
    have HW := Lib.hid hW
    have hc := hW.2.cell (i := off + k)
    have hf := hW.2.frozen (off + k)
    clear hW HB
    by_cases hlt : k < n
    · have hc := hc (by omega)
      go_wp2
      go_roundw
      case rel =>
        exact ⟨k + 1, by omega, by go_num, HW.out.next (shift_byte x k)⟩
      case measure => simp [intOf]; omega
    · clear hc
      obtain rfl : k = n := by omega
      go_wp2
      go_end0
      exact ⟨rfl, HW.out⟩

abbrev pageT : TypeId := 139

theorem num2_lt {g : Nat → Nat} (hg : ∀ i, g i < 256) (off : Nat) : leNum g off 2 < 65536 := leNum_lt hg 2 off

theorem arr512 : Try.prog.arrayLen 137 = 512 := by kernel_rfl
theorem und512 : Try.prog.underlying 137 = some (.array (Try.prog.arrayLen 137) (Try.prog.elem 137)) := by kernel_rfl
theorem size512 (w : World) : (sizeOf (Try.prog.elem 137)).run Try.prog w = .ok 1 w := by kernel_rfl

/-- 'p.b[l:]'. -/
theorem page_from (b l : Nat) (L : Int) (hL : L = l) (hl : l < 512) (w : World) :
    (Instr.sliceAt 137 (.pointer (some ⟨b, 0, none⟩)) (some (.int .i64 L)) none none).run Try.prog w = .ok (.slice (some ⟨b, l, none⟩) (512 - l) (512 - l)) w := by
  subst hL
  rw [run_sliceAt_array_l w _ _ und512 _ _ (by omega) (by rw [arr512]; omega), size512]
  simp only [Result.andThen_ok, slicedAt, arr512, Int.toNat_natCast, if_neg (show ¬ 512 = l by omega), Nat.mul_one, add_none, Nat.zero_add]

/-- 'p.b[l:h]'. -/
theorem page_range (b l h : Nat) (L H : Int) (hL : L = l) (hH : H = h) (hl : l < 512) (hlh : l ≤ h) (hh : h ≤ 512) (w : World) :
    (Instr.sliceAt 137 (.pointer (some ⟨b, 0, none⟩)) (some (.int .i64 L)) (some (.int .i64 H)) none).run Try.prog w = .ok (.slice (some ⟨b, l, none⟩) (h - l) (512 - l)) w := by
  subst hL hH
  rw [run_sliceAt_array_lh w _ _ und512 _ _ _ _ (by omega) (by omega) (by rw [arr512]; omega), size512]
  simp only [Result.andThen_ok, slicedAt, arr512, Int.toNat_natCast, if_neg (show ¬ 512 = l by omega), Nat.mul_one, add_none, Nat.zero_add]

set_option maxHeartbeats 400000 in
set_option maxRecDepth 100000 in
theorem count_any (b : Nat) (g : Nat → Nat) (w : World) (hb : Bk w b 512 pageT g) (hg : ∀ i, g i < 256) :
    Calls Try.prog 78 #[.pointer (some ⟨b, 0, none⟩)] w fun e w' => e = .returned (.int .i64 (leNum g 0 2)) ∧ w = w' := by
  have h16 := num2_lt hg 0
  have HB := Lib.hid hb
  have HG := Lib.hid hg
  clear hb hg
  go_enter Try.func78, Try.ntmps78
  go_wp2_with fail
  refine (num_any _ 512 _ _ _ pageT g _ HB.out HG.out (by omega) (by omega) (by omega)).mono ?_
  rintro e w' ⟨rfl, rfl⟩
  go_wp2
  go_ret
  exact ⟨rfl, rfl⟩

set_option maxHeartbeats 400000 in
set_option maxRecDepth 100000 in
theorem start_any (b : Nat) (g : Nat → Nat) (w : World) (hb : Bk w b 512 pageT g) (hg : ∀ i, g i < 256) :
    Calls Try.prog 79 #[.pointer (some ⟨b, 0, none⟩)] w fun e w' => e = .returned (.int .i64 (leNum g 2 2)) ∧ w = w' := by
  have h16 := num2_lt hg 2
  have HB := Lib.hid hb
  have HG := Lib.hid hg
  clear hb hg
  go_enter Try.func79, Try.ntmps79
  go_wp2_with fail
  refine (num_any _ 512 _ _ _ pageT g _ HB.out HG.out (by omega) (by omega) (by omega)).mono ?_
  rintro e w' ⟨rfl, rfl⟩
  go_wp2
  go_ret
  exact ⟨rfl, rfl⟩

set_option maxHeartbeats 400000 in
set_option maxRecDepth 100000 in
theorem pset_any (b c s : Nat) (g : Nat → Nat) (w : World) (hb : Bk w b 512 pageT g) (hc : c < 65536) (hs : s < 65536) :
    Calls Try.prog 74 #[.pointer (some ⟨b, 0, none⟩), .int .i64 c, .int .i64 s] w fun e w' => e = .returned (.tuple #[]) ∧ Only (· = b) w w' ∧ Bk w' b 512 pageT (putN (putN g 0 2 c) 2 2 s) := by
  have HB := Lib.hid hb
  clear hb
  go_enter Try.func74, Try.ntmps74
  go_wp2_with fail
  refine (put_any _ 512 _ _ _ c pageT g _ HB.out (by omega) (by omega) (by omega) (by omega)).mono ?_
  rintro e w1 ⟨rfl, ho1, hb1⟩
  have HO1 := Lib.hid ho1
  have HB1 := Lib.hid hb1
  clear ho1 hb1
  go_wp2_with fail
  refine (put_any _ 512 _ _ _ s pageT _ _ HB1.out (by omega) (by omega) (by omega) (by omega)).mono ?_
  rintro e w2 ⟨rfl, ho2, hb2⟩
  have HO2 := Lib.hid (HO1.out.trans ho2)
  have HB2 := Lib.hid hb2
  clear ho2 hb2
  go_wp2_with fail
  go_end0
  exact ⟨rfl, HO2.out, HB2.out⟩

set_option maxHeartbeats 400000 in
set_option maxRecDepth 100000 in
theorem at_any (b i : Nat) (g : Nat → Nat) (w : World) (hb : Bk w b 512 pageT g) (hg : ∀ i, g i < 256) (hi : 8 + 4 * i ≤ 512) :
    Calls Try.prog 102 #[.pointer (some ⟨b, 0, none⟩), .int .i64 i] w fun e w' => e = .returned (.tuple #[.int .i64 (leNum g (4 + 4 * i) 2), .int .i64 (leNum g (4 + 4 * i + 2) 2)]) ∧ ∃ n, w' = w.drewN n := by
  have h1 := num2_lt hg (4 + 4 * i)
  have h2 := num2_lt hg (4 + 4 * i + 2)
  have HB := Lib.hid hb
  have HG := Lib.hid hg
  clear hb hg
  have hsl := fun w => page_from b (4 + 4 * i) (4 + 4 * (i : Int)) (by omega) (by omega) w
  go_enter Try.func102, Try.ntmps102
  go_wp2_with fail
  go_quiet ((go_at_call 101; exact quiet_left (num_any _ 512 _ _ _ pageT g _ HB.out HG.out (by omega) (by omega) (by omega))))
  go_wp2
  go_ret2
  exact ⟨rfl, _, rfl⟩

set_option maxHeartbeats 400000 in
set_option maxRecDepth 100000 in
theorem point_any (b i f s : Nat) (g : Nat → Nat) (w : World) (hb : Bk w b 512 pageT g) (hi : 8 + 4 * i ≤ 512) (hc : f < 65536) (hs : s < 65536) :
    Calls Try.prog 81 #[.pointer (some ⟨b, 0, none⟩), .int .i64 i, .int .i64 f, .int .i64 s] w fun e w' => e = .returned (.tuple #[]) ∧ Only (· = b) w w' ∧ Bk w' b 512 pageT (putN (putN g (4 + 4 * i) 2 f) (4 + 4 * i + 2) 2 s) := by
  have HB := Lib.hid hb
  clear hb
  have hsl := fun w => page_from b (4 + 4 * i) (4 + 4 * (i : Int)) (by omega) (by omega) w
  go_enter Try.func81, Try.ntmps81
  go_wp2_with fail
  refine (put_any _ 512 _ _ _ f pageT g _ HB.out (by omega) (by omega) (by omega) (by omega)).mono ?_
  rintro e w1 ⟨rfl, ho1, hb1⟩
  have HO1 := Lib.hid ho1
  have HB1 := Lib.hid hb1
  clear ho1 hb1
  go_wp2_with fail
  refine (put_any _ 512 _ _ _ s pageT _ _ HB1.out (by omega) (by omega) (by omega) (by omega)).mono ?_
  rintro e w2 ⟨rfl, ho2, hb2⟩
  have HO2 := Lib.hid (HO1.out.trans ho2)
  have HB2 := Lib.hid hb2
  clear ho2 hb2
  go_wp2_with fail
  go_end0
  exact ⟨rfl, HO2.out, HB2.out⟩

end Go.Proofs.Ytbibmgcklilpmaa
