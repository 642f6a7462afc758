/- The document's page: Free. No condition. -/
import Derived.Test.YtbibmgcklilpmaaRefPage2
namespace Go.Proofs.Ytbibmgcklilpmaa
open Go.RowKit Go.Lap

/-- How long the page's row is. -/
def lenAt (w : World) (b : Nat) : Nat := match w.cell? ⟨b, 0, none⟩ with | some (.slice _ n _) => n | _ => 0

theorem trim_last_none {L : List Slot} {n : Nat} (hn : L.length = n + 1) (hs : L[n]? = some none) : trim L.dropLast = trim L := by
  have hne : L ≠ [] := fun e => by rw [e] at hn; simp at hn
  have e : L = L.dropLast ++ [none] := by
    conv => lhs; rw [← List.dropLast_concat_getLast hne]
    congr 2
    rw [List.getLast_eq_getElem]
    have : L[L.length - 1]? = some none := by rw [hn]; exact hs
    rw [List.getElem?_eq_getElem (by omega)] at this
    injection this
  conv => rhs; rw [e]
  rw [trim_none]

theorem trim_last_some {L : List Slot} {n : Nat} {x : Nat × Tup} (hn : L.length = n + 1) (hs : L[n]? = some (some x)) : trim L = L := by
  have hne : L ≠ [] := fun e => by rw [e] at hn; simp at hn
  have e : L = L.dropLast ++ [some x] := by
    conv => lhs; rw [← List.dropLast_concat_getLast hne]
    congr 2
    rw [List.getLast_eq_getElem]
    have : L[L.length - 1]? = some (some x) := by rw [hn]; exact hs
    rw [List.getElem?_eq_getElem (by omega)] at this
    injection this
  rw [e, trim_some]

set_option maxHeartbeats 400000 in
set_option maxRecDepth 100000 in
theorem rp_free_nil (i : Int) (w : World) :
    Calls Try.prog 90 #[.pointer none, .int .i64 i] w fun e w' => e = .returned (.int .i64 15) ∧ Quiet w w' := by
  go_enter Try.func90, Try.ntmps90
  go_wp2_with fail
  refine (rp_get_nil i w).mono ?_
  rintro e w1 ⟨rfl, hq1⟩
  have HQ := Lib.hid hq1
  clear hq1
  go_wp2
  go_ret
  exact ⟨rfl, HQ.out.alloc _⟩

section
variable {w : World} {b st : Nat} {S : Nat → Prop} {L : List Slot}

set_option maxHeartbeats 400000 in
set_option maxRecDepth 100000 in
theorem rp_free_none (i : Int) (h : RefPg w b S L st) (hi : slotAt L i = none) :
    Calls Try.prog 90 #[.pointer (some ⟨b, 0, none⟩), .int .i64 i] w fun e w' => e = .returned (.int .i64 15) ∧ Quiet w w' := by
  have HG := Lib.hid (rp_get_none i h hi)
  clear h hi
  go_enter Try.func90, Try.ntmps90
  go_wp2_with fail
  refine HG.out.mono ?_
  rintro e w1 ⟨rfl, hq1⟩
  have HQ := Lib.hid hq1
  clear hq1
  go_wp2
  go_ret
  exact ⟨rfl, HQ.out.alloc _⟩

set_option maxHeartbeats 1000000 in
set_option maxRecDepth 100000 in
theorem rp_free_some (i : Int) (f : Nat) (t : Tup) (h : RefPg w b S L st) (hi : slotAt L i = some (f, t)) :
    Calls Try.prog 90 #[.pointer (some ⟨b, 0, none⟩), .int .i64 i] w fun e w' => e = .returned (.int .i64 0) ∧ Only S w w' ∧ RefPg w' b S (trim (L.set i.toNat none)) st := by
  have HG := Lib.hid (rp_get_some i f t h hi)
  obtain ⟨k, rfl, hk, hs⟩ := slotAt_some hi
  rw [Int.toNat_natCast]
  obtain ⟨v, rows, h⟩ := h
  obtain ⟨A, c, rfl, hc, hm, hform⟩ := h.form
  obtain ⟨g, d, rfl, hrow, _, _, _⟩ := hform k _ hs
  have HH := Lib.hid h
  have HROW := Lib.hid hrow
  have e0 : decide ((k : Int) < 0) = false := by simp
  have e1 : decide ((L.length : Int) ≤ k) = false := by simp; omega
  have hlim := h.lim
  unfold maxLen at hm
  clear h hi hform hs hrow
  go_enter Try.func90, Try.ntmps90
  go_wp2_with fail
  refine HG.out.mono ?_
  rintro e w2 ⟨A2, c2, rfl, hq2, _⟩
  unfold tupV
  have HQ2 := Lib.hid (hq2.alloc (.cells #[.int .u64 (t.row : Int), .int .u64 (t.xmin : Int), .int .u64 (t.xmax : Int), .int .i64 t.pg, .int .i64 t.sl, .slice A2 t.data.length c2] 54))
  clear hq2 HG
  go_upto_region 4 with fail
  have HH2 := Lib.hid (HH.out.kept HQ2.out (fun _ _ x => x))
  generalize w2.alloc (.cells #[.int .u64 (t.row : Int), .int .u64 (t.xmin : Int), .int .u64 (t.xmax : Int), .int .i64 t.pg, .int .i64 t.sl, .slice A2 t.data.length c2] 54) = w3 at HQ2 HH2 ⊢
  obtain ⟨b0, b1, bf⟩ := HH2.out.cells
  obtain ⟨kc, kf⟩ : (∀ j, j < 8 → ∃ u, w3.cell? ⟨g, k * 8 + j, none⟩ = some u) ∧ ∀ o, w3.frozen? ⟨g, o, none⟩ = false := by
    have hrw := HH2.out.row
    have hc' := fun (j : Nat) u (hu : rows.flatten[j]? = some u) => hrw.cells rfl j u hu
    simp only [add_none, Nat.zero_add] at hc'
    refine ⟨fun j hj => ?_, fun o => hrw.frozenAt o⟩
    have h1 := flat_get HH2.out.len8 HROW.out hj
    have h2 : j < (slotV (some (f, t)) d).length := by rw [slotV_length]; exact hj
    rw [List.getElem?_eq_getElem h2] at h1
    exact ⟨_, hc' _ _ h1⟩
  obtain ⟨x0, k0⟩ := kc 0 (by omega)
  obtain ⟨x1, k1⟩ := kc 1 (by omega)
  obtain ⟨x2, k2⟩ := kc 2 (by omega)
  obtain ⟨x3, k3⟩ := kc 3 (by omega)
  obtain ⟨x4, k4⟩ := kc 4 (by omega)
  obtain ⟨x5, k5⟩ := kc 5 (by omega)
  obtain ⟨x6, k6⟩ := kc 6 (by omega)
  obtain ⟨x7, k7⟩ := kc 7 (by omega)
  rw [Nat.add_zero] at k0
  have HO4 := Lib.hid (eight_only w3 g (k * 8) (.bool false) (.int .u64 0) (.int .u64 0) (.int .u64 0) (.int .i64 0) (.int .i64 0) (.slice none 0 0) (.int .i64 0))
  have HP4 := Lib.hid (HH2.out.slotSet (s' := none) (d' := .slice none 0 0) hk HO4.out (row_eight HH2.out.row HH2.out.len8 HROW.out _ _ _ _ _ _ _ _) (fun f' t' e => by cases e))
  have HOS : Hid (Only S w (eightSet w3 g (k * 8) (.bool false) (.int .u64 0) (.int .u64 0) (.int .u64 0) (.int .i64 0) (.int .i64 0) (.slice none 0 0) (.int .i64 0))) := (HQ2.out.mono (T := S) (fun _ _ x => x.elim)).trans' HO4.out (fun j _ e => by subst e; exact HH.out.foot.2 j rfl)
  unfold eightSet at HP4 HOS
  clear kc HO4 HH2 b1 bf
  go_wp2_with fail
  generalize (((((((w3.setCell ⟨g, k * 8, none⟩ (.bool false)).setCell ⟨g, k * 8 + 1, none⟩ (.int .u64 0)).setCell ⟨g, k * 8 + 2, none⟩ (.int .u64 0)).setCell ⟨g, k * 8 + 3, none⟩ (.int .u64 0)).setCell ⟨g, k * 8 + 4, none⟩ (.int .i64 0)).setCell ⟨g, k * 8 + 5, none⟩ (.int .i64 0)).setCell ⟨g, k * 8 + 6, none⟩ (.slice none 0 0)).setCell ⟨g, k * 8 + 7, none⟩ (.int .i64 0) = w4 at HP4 HOS ⊢
  clear k0 k1 k2 k3 k4 k5 k6 k7 b0 kf HQ2
  go_loopw [] (fun wr => ∃ (L' : List Slot) (rows' : List (List Value)), RefPgAt wr b S L' st (.slice (some ⟨g, 0, none⟩) L'.length c) rows' ∧ trim L' = trim (L.set k none) ∧ Only S w wr) (fun wr => lenAt wr b)
  case atStart => exact ⟨L.set k none, _, by rw [List.length_set]; exact HP4.out, rfl, HOS.out⟩
  case round =>
    obtain ⟨L', rows', hP, htr, hO⟩ := hrel
    clear HP4 HOS
    have HP := Lib.hid hP
    have HTR := Lib.hid htr
    have HO := Lib.hid hO
    obtain ⟨b0, b1, bf⟩ := hP.cells
    have hlim' := hP.lim
    obtain ⟨n, hn⟩ : ∃ n, L'.length = n := ⟨_, rfl⟩
    rcases n with _ | n
    · rw [hn] at b0
      have HE : Hid (trim (L.set k none) = L') := by rw [← htr, List.eq_nil_of_length_eq_zero hn]; rfl
      clear hP htr hO b1
      go_wp2_with fail
      go_region
      go_wp2
      go_ret
      exact ⟨rfl, HO.out.drew, by rw [HE.out]; exact ⟨_, _, HP.out.kept ((Only.refl (fun _ => False) wr).drew) (fun _ _ x => x)⟩⟩
    · rw [hn] at b0
      obtain ⟨s, hs⟩ : ∃ s, L'[n]? = some s := ⟨_, List.getElem?_eq_getElem (by omega)⟩
      obtain ⟨A', c', hv, hc', hm', hform⟩ := hP.form
      obtain ⟨g', d', hA', _, _, hcs, _⟩ := hform n s hs
      have hg' : g' = g := by
        injection hv with h1 _ _
        rw [hA'] at h1
        injection h1 with h1
        injection h1 with h1 _ _
        exact h1.symm
      subst hg'
      have hcc : n + 1 ≤ c := by
        rcases hP.row.2 with ⟨e, _⟩ | ⟨_, cap, _, e, _, _, r1, _⟩
        · cases e
        · injection e with _ _ e3
          omega
      have d1 : decide ((n : Int) + 1 ≤ n) = false := decide_eq_false (by omega)
      have d2 : ¬ (n : Int) + 1 ≤ n := by omega
      have d3 : (n : Int) < n + 1 := by omega
      have d4 : (0 : Int) < n + 1 := by omega
      have hcc' : (n : Int) ≤ c := by omega
      rcases s with _ | y
      · obtain ⟨k0, _⟩ := cells_none hcs
        have HPOP := Lib.hid (hP.pop (z := 0) (by omega) rfl)
        rw [hn, Nat.add_sub_cancel] at HPOP
        have HE := Lib.hid (trim_last_none hn hs)
        have HL : Hid (lenAt wr b = n + 1) := by show lenAt wr b = n + 1; unfold lenAt; rw [b0]
        clear hP htr hO hform hcs hv hA' hs
        go_wp2_with fail
        go_region
        go_wp2_with fail
        go_region
        have HP2 := Lib.hid (HPOP.out.kept ((Only.refl (fun _ => False) (wr.setCell ⟨b, 0, none⟩ (.slice (some ⟨g', 0, none⟩) n c))).drew.drew) (fun _ _ x => x))
        have HO2 : Hid (Only S w (wr.setCell ⟨b, 0, none⟩ (.slice (some ⟨g', 0, none⟩) n c)).drew.drew) := (HO.out.setCell (p := ⟨b, 0, none⟩) (fun _ => HH.out.foot.1) _).drew.drew
        go_roundw
        case rel => ((repeat apply Exists.intro); exact ⟨⟨L'.dropLast, rows'.dropLast, by rw [List.length_dropLast, hn]; exact HP2.out, HE.out.trans HTR.out, HO2.out⟩, rfl⟩)
        case measure =>
          rw [HL.out]
          unfold lenAt
          rw [HP2.out.cells.1]
          exact Nat.lt_succ_self n
      · obtain ⟨fy, ty⟩ := y
        obtain ⟨k0, _⟩ := cells_some hcs
        have HE : Hid (trim (L.set k none) = L') := by rw [← htr]; exact trim_last_some hn hs
        clear hP htr hO hform hcs hv hA' hs
        go_wp2_with fail
        go_region
        go_wp2
        go_ret
        exact ⟨rfl, HO.out.drew, by rw [HE.out]; exact ⟨_, _, HP.out.kept ((Only.refl (fun _ => False) wr).drew) (fun _ _ x => x)⟩⟩

end
end Go.Proofs.Ytbibmgcklilpmaa
