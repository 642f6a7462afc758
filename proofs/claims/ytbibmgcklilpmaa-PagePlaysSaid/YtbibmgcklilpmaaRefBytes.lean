/- The document's few, lay, pack. No condition. -/
import Derived.Test.YtbibmgcklilpmaaPageLoad
import Derived.Test.YtbibmgcklilpmaaRef5b
import Derived.Test.YtbibmgcklilpmaaRefPage5
import Derived.Test.YtbibmgcklilpmaaPageBoth
namespace Go.Lap

/-- A number as so many bytes, the lowest first. -/
def leB (n k : Nat) : List Nat := (List.range k).map (fun j => n / 256 ^ j % 256)
theorem leB_len (n k : Nat) : (leB n k).length = k := by simp [leB]
theorem leB_succ (n k : Nat) : leB n (k + 1) = leB n k ++ [n / 256 ^ k % 256] := by
  unfold leB
  rw [List.range_succ, List.map_append]
  rfl
theorem leB_lt (n k : Nat) : ∀ x ∈ leB n k, x < 256 := by
  intro x hx
  obtain ⟨j, _, rfl⟩ := List.mem_map.1 hx
  omega

/-- A version's bytes, one row behind the other. -/
def verL (t : Tup) : List Nat := leB t.row 8 ++ leB t.xmin 8 ++ leB t.xmax 8 ++ leB (t.pg + 1).toNat 4 ++ leB (t.sl + 1).toNat 2 ++ t.data
theorem verL_len (t : Tup) : (verL t).length = t.size := by
  simp only [verL, List.length_append, leB_len, Tup.size]

theorem hdrL (t : Tup) : leB t.row 8 ++ leB t.xmin 8 ++ leB t.xmax 8 ++ leB (t.pg + 1).toNat 4 ++ leB (t.sl + 1).toNat 2 = (List.range 30).map t.hdr := by
  unfold leB Tup.hdr putN
  generalize (t.pg + 1).toNat = a
  generalize (t.sl + 1).toNat = b
  simp [List.range_succ]

theorem verL_get (t : Tup) {j : Nat} (h : j < t.size) : (verL t).getD j 0 = t.ver j := by
  have e : verL t = (List.range 30).map t.hdr ++ t.data := by rw [← hdrL]; rfl
  have hs : t.size = 30 + t.data.length := rfl
  rw [e, List.getD_eq_getElem?_getD]
  unfold Tup.ver
  by_cases hj : j < 30
  · rw [if_pos hj, List.getElem?_append_left (by simp; omega), List.getElem?_map, List.getElem?_range hj]
    rfl
  · rw [if_neg hj, List.getElem?_append_right (by simp; omega), List.getD_eq_getElem?_getD]
    simp

end Go.Lap
namespace Go.Proofs.Ytbibmgcklilpmaa
open Go.RowKit Go.Lap

theorem wrapU8' (r : Nat) (h : r < 256) : IntKind.u8.wrap (r : Int) = (r : Int) := by
  simp [IntKind.wrap, IntKind.bits, IntKind.signed]
  omega

theorem bytesV_append (a b : List Nat) : bytesV (a ++ b) = bytesV a ++ bytesV b := by simp [bytesV]

set_option maxHeartbeats 1000000 in
set_option maxRecDepth 100000 in
theorem few_bytes (n k : Nat) (w : World) (hn : n < 18446744073709551616) (hk : k ≤ 8) :
    Calls Try.prog 99 #[.int .u64 (n : Int), .int .i64 (k : Int)] w (FreshPost w (leB n k)) := by
  have HN := Lib.hid hn
  clear hn
  go_enter Try.func99, Try.ntmps99
  go_wp2
  go_loopw [7, 5, 0] (fun c v s0 wr => ∃ j : Nat, j ≤ k ∧ c = .int .i64 (j : Int) ∧ s0 = .int .u64 ((n / 256 ^ j : Nat) : Int) ∧ Fresh w wr v (leB n j)) (fun c _ _ _ => k - (intOf c).toNat)
  case atStart => exact ⟨0, Nat.zero_le _, rfl, by simp, ⟨Only.refl _ _, (fun k e => by cases e), World.ownsRow_nil _ _ _ _⟩⟩
  case round =>
    obtain ⟨j, hj, rfl, rfl, hf⟩ := hrel
    have HF := Lib.hid hf
    have hown := hf.own
    rw [leB_len] at hown
    by_cases hlt : j < k
    · have HPW : Hid (n / 256 ^ (j + 1) = n / 256 ^ j / 256) := Lib.hid (by rw [Nat.pow_succ, Nat.div_div_eq_div_mul])
      have HLE := Lib.hid (leB_succ n j)
      have hy : n / 256 ^ j < 18446744073709551616 := Nat.lt_of_le_of_lt (Nat.div_le_self _ _) HN.out
      generalize n / 256 ^ j = y at HPW HLE hy
      obtain ⟨c, hc⟩ : ∃ c, y % 256 = c := ⟨_, rfl⟩
      obtain ⟨d, hd⟩ : ∃ d, y / 256 = d := ⟨_, rfl⟩
      have h2 : (y : Int) % 256 = (c : Int) := by omega
      have h3 : (y : Int) / 256 = (d : Int) := by omega
      have h2' : (y : Int).tmod 256 = (c : Int) := by rw [Int.tmod_eq_emod_of_nonneg (by omega)]; exact h2
      have h3' : (y : Int).tdiv 256 = (d : Int) := by rw [Int.tdiv_eq_ediv_of_nonneg (by omega)]; exact h3
      have hcl : c < 256 := by omega
      have hwu : IntKind.u8.wrap (c : Int) = (c : Int) := wrapU8' c hcl
      rw [hc] at HLE
      rw [hd] at HPW
      have HOT := Lib.hid (owns_kept hown ((Only.refl (fun _ => False) wr).alloc (.cells #[.int .u8 (c : Int)] 5)) (fun _ _ x => x))
      clear hf hown hc hd
      go_wp2_with (at_builtin; go_must (refine app elem_u8 rfl (.tmp 9) (.tmp 13) rfl rfl HOT.out rfl (Rd.one wr (.int .u8 (c : Int)) 5 (0, 0) (S := fun _ => True) trivial) (fun u hu => by simp at hu; rw [hu]; rfl) (by unfold maxLen; omega) (by omega) ?_))
      intro v5 w5 hg5
      have HN5 : Hid (Fresh w w5 v5 (leB n (j + 1))) := Lib.hid (by
        rw [HLE.out]
        refine ⟨(HF.out.quiet.alloc _).trans' hg5.only (fun k2 hk2 e => by have := HF.out.new k2 e; omega), fun k2 e => ?_, ?_⟩
        · rcases hg5.loc with x | x
          · rw [x] at e; exact HF.out.new k2 e
          · rw [x] at e; injection e with e; have := HF.out.quiet.size; simp only [World.size_alloc] at e; omega
        · rw [List.length_append, leB_len, bytesV_append]
          exact hg5.own)
      clear hg5 HOT
      go_wp2
      go_roundw
      case rel => exact ⟨j + 1, by omega, by go_num, by rw [HPW.out], HN5.out⟩
      case measure => simp [intOf]; omega
    · obtain rfl : j = k := by omega
      clear hf hown
      go_wp2
      go_ret
      exact ⟨_, rfl, HF.out⟩

set_option maxHeartbeats 1000000 in
set_option maxRecDepth 100000 in
/-- Bytes are laid at a place. -/
theorem lay_bytes (ob at_ cb : Nat) (A : Option Addr) (l : List Nat) (G : Nat → Nat) (S : Nat → Prop) (w : World) (hb : Bk w ob 512 5 G) (hd : Rd w S 1 A l.length (bytesV l)) (hS : ∀ k, S k → k ≠ ob) (hat : at_ + l.length ≤ 512) :
    Calls Try.prog 98 #[.slice (some ⟨ob, 0, none⟩) 512 512, .int .i64 (at_ : Int), .slice A l.length cb] w fun e w' => e = .returned (.tuple #[]) ∧ Only (· = ob) w w' ∧ Bk w' ob 512 5 (layF G at_ l.length (fun j => l.getD j 0)) := by
  have HB := Lib.hid hb
  have HD := Lib.hid hd
  have HSS := Lib.hid hS
  obtain ⟨m, hm⟩ : ∃ m, l.length = m := ⟨_, rfl⟩
  have HM := Lib.hid hm
  rw [hm] at hat ⊢
  clear hb hd hS hm
  go_enter Try.func98, Try.ntmps98
  go_wp2
  go_loopw [10, 6, 7] (fun c _ _ wr => ∃ j : Nat, j ≤ m ∧ c = .int .i64 (j : Int) ∧ Only (· = ob) w wr ∧ Bk wr ob 512 5 (layF G at_ j (fun j => l.getD j 0))) (fun c _ _ _ => m - (intOf c).toNat)
  case atStart => exact ⟨0, Nat.zero_le _, rfl, Only.refl _ _, HB.out.ext (fun i _ => by rw [layF_out (by omega)])⟩
  case round =>
    obtain ⟨j, hj, rfl, ho, hbk⟩ := hrel
    have HO := Lib.hid ho
    have HBK := Lib.hid hbk
    clear ho hbk
    by_cases hlt : j < m
    · obtain ⟨b, off, hA, _, hcl⟩ := gOf_cell (HD.out.kept HO.out (fun k x => HSS.out k x)) (by rw [HM.out]; omega)
      subst hA
      have z0 := hcl j (by rw [HM.out]; exact hlt)
      have z1 := HBK.out.cell (i := at_ + j) (by omega)
      have zf := fun o => HBK.out.frozen o
      unfold byteF at z1
      obtain ⟨y, hy⟩ : ∃ y, gOf l j = y := ⟨_, rfl⟩
      rw [hy] at z0
      have e1 : (j : Int) < (m : Int) := by omega
      have e2 : (0 : Int) ≤ (j : Int) := by omega
      have e3 : (0 : Int) ≤ (at_ : Int) + (j : Int) := by omega
      have e4 : (at_ : Int) + (j : Int) < 512 := by omega
      have HN : Hid (Bk (wr.setCell ⟨ob, at_ + j, none⟩ (.int .u8 (y : Int))) ob 512 5 (layF G at_ (j + 1) (fun j => l.getD j 0))) := Lib.hid ((HBK.out.set (at_ + j) y).ext (fun i _ => by
        by_cases h1 : i = at_ + j
        · subst h1
          rw [if_pos rfl, layF_in (by omega)]
          exact hy.symm
        · rw [if_neg h1]
          unfold layF
          by_cases h2 : at_ ≤ i ∧ i < at_ + j
          · rw [if_pos h2, if_pos (by omega)]
          · rw [if_neg h2, if_neg (by omega)]))
      clear hcl hy
      generalize layF G at_ j (fun j => l.getD j 0) (at_ + j) = y0 at z1
      go_wp2
      go_roundw
      case rel => exact ⟨j + 1, by omega, by go_num, HO.out.setCell (p := ⟨ob, at_ + j, none⟩) (fun _ => rfl) _, HN.out⟩
      case measure => simp [intOf]; omega
    · obtain rfl : j = m := by omega
      go_wp2
      go_end0
      exact ⟨rfl, HO.out, HBK.out⟩

end Go.Proofs.Ytbibmgcklilpmaa
