/- The document's Bytes. No condition. -/
import Derived.Test.YtbibmgcklilpmaaRefBytes2
import Derived.Test.YtbibmgcklilpmaaPageTwice
namespace Go.Lap

/-- What is still to be laid. -/
def Todo (L : List Slot) (k x : Nat) : Prop := (4 + 4 * k ≤ x ∧ x < 4 + 4 * L.length) ∨ ∃ (i f : Nat) (t : Tup), k ≤ i ∧ L[i]? = some (some (f, t)) ∧ f ≤ x ∧ x < f + t.size

structure ByW (g : Nat → Nat) (L : List Slot) (k : Nat) (G : Nat → Nat) : Prop where
  done_ : ∀ x, x < 512 → ¬ Todo L k x → G x = g x
  ptr : ∀ x, 4 + 4 * k ≤ x → x < 4 + 4 * L.length → G x = 0

def ptrL (f n : Nat) : List Nat := leB f 2 ++ leB n 2

theorem leB_get (n : Nat) {k j : Nat} (h : j < k) : (leB n k).getD j 0 = n / 256 ^ j % 256 := by
  unfold leB
  rw [List.getD_eq_getElem?_getD, List.getElem?_map, List.getElem?_range h]
  rfl

theorem ptrL_lo (f n : Nat) {j : Nat} (h : j < 2) : (ptrL f n).getD j 0 = f / 256 ^ j % 256 := by
  rw [← leB_get f h, List.getD_eq_getElem?_getD, List.getD_eq_getElem?_getD]
  unfold ptrL
  rw [List.getElem?_append_left (by rw [leB_len]; exact h)]

theorem ptrL_hi (f n : Nat) {j : Nat} (h : j < 2) : (ptrL f n).getD (2 + j) 0 = n / 256 ^ j % 256 := by
  rw [← leB_get n h, List.getD_eq_getElem?_getD, List.getD_eq_getElem?_getD]
  unfold ptrL
  rw [List.getElem?_append_right (by rw [leB_len]; omega), leB_len, Nat.add_sub_cancel_left]

section
variable {g G : Nat → Nat} {L : List Slot} {st k : Nat}

theorem ByW.start (h : Pg g L st) : ByW g L 0 (layF (layF (fun _ => 0) 0 2 (fun j => (leB L.length 2).getD j 0)) 2 2 (fun j => (leB st 2).getD j 0)) := by
  refine ⟨fun x hx hn => ?_, fun x h1 _ => ?_⟩
  · by_cases h0 : x < 2
    · rw [layF_out (by omega)]
      have : layF (fun _ => 0) 0 2 (fun j => (leB L.length 2).getD j 0) (0 + x) = (leB L.length 2).getD x 0 := layF_in h0
      rw [Nat.zero_add] at this
      rw [this, leB_get _ h0, ← h.cnt, leNum_byte h.lt _ _ _ h0, Nat.zero_add]
    · by_cases h1 : x < 4
      · have : layF (layF (fun _ => 0) 0 2 (fun j => (leB L.length 2).getD j 0)) 2 2 (fun j => (leB st 2).getD j 0) (2 + (x - 2)) = (leB st 2).getD (x - 2) 0 := layF_in (by omega)
        rw [show 2 + (x - 2) = x by omega] at this
        rw [this, leB_get _ (by omega), ← h.st, leNum_byte h.lt _ _ _ (by omega)]
        congr 1
        omega
      · rw [layF_out (by omega), layF_out (by omega)]
        refine (h.zero x ?_ hx (fun i f t hi => ?_)).symm
        · rcases Nat.lt_or_ge x (4 + 4 * L.length) with y | y
          · exact absurd (Or.inl ⟨by omega, y⟩) hn
          · exact y
        · by_cases y : x < f ∨ f + t.size ≤ x
          · exact y
          · exact absurd (Or.inr ⟨i, f, t, Nat.zero_le _, hi, by omega, by omega⟩) hn
  · rw [layF_out (by omega), layF_out (by omega)]

theorem ByW.none (h : Pg g L st) (hb : ByW g L k G) (hk : L[k]? = some Option.none) : ByW g L (k + 1) G := by
  have hkl : k < L.length := (List.getElem?_eq_some_iff.1 hk).1
  refine ⟨fun x hx hn => ?_, fun x h1 h2 => hb.ptr x (by omega) h2⟩
  by_cases ht : Todo L k x
  · have hx2 : 4 + 4 * k ≤ x ∧ x < 4 + 4 * (k + 1) := by
      rcases ht with ⟨a, b⟩ | ⟨i, f, t, hi, hL, a, b⟩
      · refine ⟨a, ?_⟩
        rcases Nat.lt_or_ge x (4 + 4 * (k + 1)) with y | y
        · exact y
        · exact absurd (Or.inl ⟨y, b⟩) hn
      · rcases Nat.lt_or_ge k i with y | y
        · exact absurd (Or.inr ⟨i, f, t, y, hL, a, b⟩) hn
        · obtain rfl : i = k := by omega
          rw [hk] at hL
          cases hL
    rw [hb.ptr x hx2.1 (by omega)]
    obtain ⟨p1, p2⟩ := h.ptr k _ hk
    by_cases h6 : x < 6 + 4 * k
    · have := leNum_byte h.lt 2 (4 + 4 * k) (x - (4 + 4 * k)) (by omega)
      rw [p1, show 4 + 4 * k + (x - (4 + 4 * k)) = x by omega] at this
      rw [← this]
      simp [Slot.from_]
    · have := leNum_byte h.lt 2 (6 + 4 * k) (x - (6 + 4 * k)) (by omega)
      rw [p2, show 6 + 4 * k + (x - (6 + 4 * k)) = x by omega] at this
      rw [← this]
      simp [Slot.size]
  · exact hb.done_ x hx ht

theorem ByW.some {f : Nat} {t : Tup} (h : Pg g L st) (hb : ByW g L k G) (hk : L[k]? = some (some (f, t))) :
    ByW g L (k + 1) (layF (layF G (4 + 4 * k) 4 (fun j => (ptrL f t.size).getD j 0)) f t.size (fun j => (verL t).getD j 0)) := by
  have hkl : k < L.length := (List.getElem?_eq_some_iff.1 hk).1
  obtain ⟨v1, v2, v3, v4⟩ := h.ver k f t hk
  have hfit := h.fit
  refine ⟨fun x hx hn => ?_, fun x h1 h2 => ?_⟩
  · by_cases hv : f ≤ x ∧ x < f + t.size
    · have : layF (layF G (4 + 4 * k) 4 (fun j => (ptrL f t.size).getD j 0)) f t.size (fun j => (verL t).getD j 0) (f + (x - f)) = (verL t).getD (x - f) 0 := layF_in (by omega)
      rw [show f + (x - f) = x by omega] at this
      rw [this, verL_get t (by omega), ← v4 (x - f) (by omega), show f + (x - f) = x by omega]
    · rw [layF_out (by omega)]
      obtain ⟨p1, p2⟩ := h.ptr k _ hk
      by_cases hp : 4 + 4 * k ≤ x ∧ x < 4 + 4 * k + 4
      · by_cases h6 : x < 6 + 4 * k
        · have : layF G (4 + 4 * k) 4 (fun j => (ptrL f t.size).getD j 0) (4 + 4 * k + (x - (4 + 4 * k))) = (ptrL f t.size).getD (x - (4 + 4 * k)) 0 := layF_in (by omega)
          have h7 := leNum_byte h.lt 2 (4 + 4 * k) (x - (4 + 4 * k)) (by omega)
          rw [p1] at h7
          rw [show 4 + 4 * k + (x - (4 + 4 * k)) = x by omega] at this h7
          rw [this, ptrL_lo _ _ (by omega), ← h7]
          rfl
        · have : layF G (4 + 4 * k) 4 (fun j => (ptrL f t.size).getD j 0) (4 + 4 * k + (2 + (x - (6 + 4 * k)))) = (ptrL f t.size).getD (2 + (x - (6 + 4 * k))) 0 := layF_in (by omega)
          have h7 := leNum_byte h.lt 2 (6 + 4 * k) (x - (6 + 4 * k)) (by omega)
          rw [p2] at h7
          rw [show 4 + 4 * k + (2 + (x - (6 + 4 * k))) = x by omega] at this
          rw [show 6 + 4 * k + (x - (6 + 4 * k)) = x by omega] at h7
          rw [this, ptrL_hi _ _ (by omega), ← h7]
          rfl
      · rw [layF_out (by omega)]
        refine hb.done_ x hx (fun ht => ?_)
        rcases ht with ⟨a, b⟩ | ⟨i, f', t', hi, hL, a, b⟩
        · exact hn (Or.inl ⟨by omega, b⟩)
        · rcases Nat.lt_or_ge k i with y | y
          · exact hn (Or.inr ⟨i, f', t', y, hL, a, b⟩)
          · obtain rfl : i = k := by omega
            rw [hk] at hL
            injection hL with hL
            injection hL with hL
            injection hL with e1 e2
            subst e1 e2
            exact hv ⟨a, b⟩
  · rw [layF_out (by omega), layF_out (by omega)]
    exact hb.ptr x (by omega) h2

theorem ByW.all (hb : ByW g L L.length G) : ∀ x, x < 512 → G x = g x := fun x hx => hb.done_ x hx (fun ht => by
  rcases ht with ⟨a, b⟩ | ⟨i, f, t, hi, hL, a, b⟩
  · omega
  · have := (List.getElem?_eq_some_iff.1 hL).1
    omega)
end
end Go.Lap
namespace Go.Proofs.Ytbibmgcklilpmaa
open Go.RowKit Go.Lap

theorem wrap_u64' (n : Nat) (h : n < 18446744073709551616) : IntKind.u64.wrap (n : Int) = (n : Int) := by
  simp [IntKind.wrap, IntKind.bits, IntKind.signed]
  omega

theorem own_rd' {W : World} {A : Option Addr} {c n : Nat} {l : List Nat} (h : W.ownsRow 0 5 1 (.slice A n c) n (bytesV l)) : Rd W (fun k => (Value.slice A n c).ownBlock = some k) 1 A n (bytesV l) := by
  obtain ⟨A', c', e, _, _, r⟩ := own_form h
  have e1 := (Value.slice.inj e).1
  rw [← e1] at r
  exact r

theorem make512 (w : World) : (Instr.makeSlice 48 (.int .i64 512) (.int .i64 512)).run Try.prog w = .ok (.slice (some ⟨w.heap.size, 0, none⟩) 512 512) (w.alloc (.cells (tab 512 (byteF (fun _ => 0))) 5)) := make_u8 512 (by omega) w

theorem rbytes_nil (w : World) : Calls Try.prog 72 #[.pointer none] w fun e w' => e = .returned (.slice none 0 0) ∧ w = w' := by
  go_enter Try.func72, Try.ntmps72
  go_wp2
  go_ret
  exact ⟨rfl, rfl⟩

/-- A row of bytes of its own, as one list. -/
theorem bk_fresh {w W : World} {ob : Nat} {G g : Nat → Nat} (hq : Quiet w W) (hn : w.heap.size ≤ ob) (hb : Bk W ob 512 5 G) (he : ∀ x, x < 512 → G x = g x) : Fresh w W (.slice (some ⟨ob, 0, none⟩) 512 512) (pgL g) := by
  refine ⟨hq, fun k e => by have e2 : ob = k := Option.some.inj e; omega, ?_⟩
  rw [pgL_len]
  refine ⟨by simp [bytesV, pgL_len], .inr ⟨ob, 512, _, rfl, Nat.zero_le _, hb.ext he, Nat.le_refl _, by unfold maxLen; omega, by rw [tab_size], ?_⟩⟩
  apply List.ext_getElem?
  intro i
  by_cases hi : i < 512
  · rw [List.getElem?_take_of_lt (by omega), Array.getElem?_toList, tab_get hi]
    unfold bytesV pgL
    rw [List.getElem?_map, List.getElem?_map, List.getElem?_range hi]
    rfl
  · rw [List.getElem?_take_eq_none (by omega), List.getElem?_eq_none (by simp [bytesV, pgL_len]; omega)]

set_option maxHeartbeats 4000000 in
set_option maxRecDepth 100000 in
theorem rbytes_any {g : Nat → Nat} {L : List Slot} {st xb : Nat} {S : Nat → Prop} {w : World} (h : RefPg w xb S L st) (hp : Pg g L st) :
    Calls Try.prog 72 #[.pointer (some ⟨xb, 0, none⟩)] w (FreshPost w (pgL g)) := by
  have HPG := Lib.hid hp
  have hlim := hp.fit
  have hle := hp.le
  obtain ⟨v, rows, h⟩ := h
  obtain ⟨A, c, rfl, hc, hm, hf⟩ := h.form
  obtain ⟨c0, c1, cf⟩ := h.cells
  have HF := Lib.hid hf
  obtain ⟨n, hn⟩ : ∃ n, L.length = n := ⟨_, rfl⟩
  have HN := Lib.hid hn
  rw [hn] at hlim c0 hc
  unfold maxLen at hm
  have hmk := make512
  have HQ1 : Hid (Quiet w (w.alloc (.cells (tab 512 (byteF (fun _ => 0))) 5))) := Lib.hid ((Only.refl _ _).alloc _)
  have HB1 : Hid (Bk (w.alloc (.cells (tab 512 (byteF (fun _ => 0))) 5)) w.heap.size 512 5 (fun _ => 0)) := Lib.hid (alloc_new w _)
  have HC0 := Lib.hid c0
  have HC1 := Lib.hid c1
  clear h hf cf hp hn c0 c1
  go_enter Try.func72, Try.ntmps72
  go_upto_region 4 with (fail)
  generalize w.alloc (.cells (tab 512 (byteF (fun _ => 0))) 5) = w1 at HQ1 HB1 ⊢
  obtain ⟨ob, hob⟩ : ∃ ob, w.heap.size = ob := ⟨_, rfl⟩
  have HOB := Lib.hid hob
  rw [hob] at HB1 ⊢
  clear hob hmk
  have c0 := HQ1.out.cell HC0.out (fun x => x)
  have hw0 : IntKind.u64.wrap (n : Int) = (n : Int) := wrap_u64' n (by omega)
  go_wp2_with fail
  refine (few_bytes n 2 _ (by omega) (by omega)).mono ?_
  rintro e w2 ⟨v2, rfl, hf2⟩
  obtain ⟨A2, c2, hv2, _, _, _⟩ := own_form hf2.own
  rw [leB_len] at hv2
  subst hv2
  have HOB1 := Lib.hid HB1.out.lt
  have HL2 := Lib.hid (lay_bytes ob 0 c2 A2 (leB n 2) _ _ w2 (HB1.out.kept hf2.quiet (fun x => x)) (by rw [leB_len]; exact fresh_rd hf2 (leB_len _ _)) (fun k2 e x => by have h1 := hf2.new k2 e; have h2 := HOB1.out; omega) (by rw [leB_len]; omega))
  rw [leB_len] at HL2
  have HQ2 := Lib.hid (HQ1.out.trans hf2.quiet)
  clear hf2 c0 hw0
  go_wp2_with fail
  refine HL2.out.mono ?_
  rintro e w3 ⟨rfl, ho3, hb3⟩
  have HQ3 : Hid (Quiet w w3) := Lib.hid (HQ2.out.trans' ho3 (fun k2 hk2 e => by have := HOB.out; omega))
  have HB3 := Lib.hid hb3
  have c1 := HQ3.out.cell HC1.out (fun x => x)
  have hw1 : IntKind.u64.wrap (st : Int) = (st : Int) := wrap_u64' st (by omega)
  clear ho3 hb3 HL2
  go_wp2_with fail
  refine (few_bytes st 2 _ (by omega) (by omega)).mono ?_
  rintro e w4 ⟨v4, rfl, hf4⟩
  obtain ⟨A4, c4, hv4, _, _, _⟩ := own_form hf4.own
  rw [leB_len] at hv4
  subst hv4
  have HL4 := Lib.hid (lay_bytes ob 2 c4 A4 (leB st 2) _ _ w4 (HB3.out.kept hf4.quiet (fun x => x)) (by rw [leB_len]; exact fresh_rd hf4 (leB_len _ _)) (fun k2 e x => by have h1 := hf4.new k2 e; have h2 := HB3.out.lt; omega) (by rw [leB_len]; omega))
  rw [leB_len] at HL4
  have HQ4 := Lib.hid (HQ3.out.trans hf4.quiet)
  clear hf4 c1 hw1
  go_wp2_with fail
  refine HL4.out.mono ?_
  rintro e w5 ⟨rfl, ho5, hb5⟩
  have HQ5 : Hid (Quiet w w5) := Lib.hid (HQ4.out.trans' ho5 (fun k2 hk2 e => by have := HOB.out; omega))
  have HB5 : Hid (∃ G, Bk w5 ob 512 5 G ∧ ByW g L 0 G) := Lib.hid (by
    have := HPG.out
    have hst := ByW.start this
    rw [HN.out] at hst
    exact ⟨_, hb5, hst⟩)
  have c0 := HQ5.out.cell HC0.out (fun x => x)
  clear ho5 hb5 HL4 HB3 HB1
  go_wp2_with fail
  clear c0
  go_loopw [31, 4, 5] (fun c _ _ wr => ∃ k : Nat, k ≤ n ∧ c = .int .i64 (k : Int) ∧ Quiet w wr ∧ ∃ G, Bk wr ob 512 5 G ∧ ByW g L k G) (fun c _ _ _ => n - (intOf c).toNat)
  case atStart => exact ⟨0, Nat.zero_le _, rfl, HQ5.out, HB5.out⟩
  case round =>
    obtain ⟨k, hk, rfl, hq, GG, hbk, hby⟩ := hrel
    have HQ := Lib.hid hq
    have HBK := Lib.hid hbk
    have HBY := Lib.hid hby
    clear hbk hby HB5
    by_cases hlt : k < n
    · obtain ⟨s, hs⟩ : ∃ s, L[k]? = some s := ⟨_, List.getElem?_eq_getElem (by rw [HN.out]; exact hlt)⟩
      have HS0 := Lib.hid hs
      obtain ⟨gb, d, rfl, _, hd, hcs, _⟩ := HF.out k s hs
      rcases s with _ | ⟨f, t⟩
      · obtain ⟨k0, k1, k2, k3, k4, k5, k6, k7⟩ := cells_none (cells_on hcs hq (fun x => x))
        have HBN := Lib.hid (HBY.out.none HPG.out HS0.out)
        clear hs hcs hd hq
        go_wp2
        go_roundw
        case rel => exact ⟨k + 1, by omega, by go_num, HQ.out.alloc _, GG, HBK.out.kept ((Only.refl (fun _ => False) wr).alloc _) (fun x => x), HBN.out⟩
        case measure => simp [intOf]; omega
      · obtain ⟨hdat, hok, _⟩ := hd f t rfl
        obtain ⟨Ad, cd, rfl, hdown, _⟩ := hdat
        obtain ⟨k0, k1, k2, k3, k4, k5, k6, k7⟩ := cells_some (cells_on hcs hq (fun x => x))
        have HOK := Lib.hid hok
        have hver := HPG.out.ver k f t hs
        obtain ⟨sz, hsz⟩ : ∃ sz, t.size = sz := ⟨_, rfl⟩
        have HTS := Lib.hid hsz
        have hf512 : f + sz ≤ 512 := by rw [← hsz]; exact hver.2.1
        have hfst : st ≤ f := hver.1
        have hdl : 30 + t.data.length = sz := hsz
        have HBN := Lib.hid (HBY.out.some HPG.out HS0.out)
        rw [hsz] at HBN
        have HDOW := Lib.hid hdown
        have HDO := Lib.hid (owns_kept hdown hq (fun _ _ x => x))
        clear hs hcs hd hq hver hsz hok hdown
        go_upto_region 10 with (fail)
        have q8 : Quiet wr (wr.alloc (.cells #[.bool true, .int .u64 (t.row : Int), .int .u64 (t.xmin : Int), .int .u64 (t.xmax : Int), .int .i64 t.pg, .int .i64 t.sl, .slice Ad t.data.length cd, .int .i64 (f : Int)] 161)) := (Only.refl _ _).alloc _
        have HQ8 := Lib.hid (HQ.out.trans q8)
        have HBK8 := Lib.hid (HBK.out.kept q8 (fun x => x))
        have HDO8 := Lib.hid (owns_kept HDO.out q8 (fun _ _ x => x))
        have HBX := Lib.hid (alloc_new wr (.cells #[.bool true, .int .u64 (t.row : Int), .int .u64 (t.xmin : Int), .int .u64 (t.xmax : Int), .int .i64 t.pg, .int .i64 t.sl, .slice Ad t.data.length cd, .int .i64 (f : Int)] 161))
        have HOB8 := Lib.hid HBK8.out.lt
        have HNE : Hid (wr.heap.size ≠ ob) := Lib.hid (by have := HBK.out.lt; omega)
        clear q8 k0 k1 k2 k3 k4 k5 k6 k7 HDO HBK
        generalize wr.alloc (.cells #[.bool true, .int .u64 (t.row : Int), .int .u64 (t.xmin : Int), .int .u64 (t.xmax : Int), .int .i64 t.pg, .int .i64 t.sl, .slice Ad t.data.length cd, .int .i64 (f : Int)] 161) = w8 at HQ8 HBK8 HDO8 HBX HOB8 ⊢
        generalize wr.heap.size = bx at HBX HNE ⊢
        have HS : Hid (∀ W : World, Only (· = ob) w8 W → (fun w' => w'.cell? ⟨bx, 1, none⟩ = some (.int .u64 (t.row : Int)) ∧ w'.cell? ⟨bx, 2, none⟩ = some (.int .u64 (t.xmin : Int)) ∧ w'.cell? ⟨bx, 3, none⟩ = some (.int .u64 (t.xmax : Int)) ∧ w'.cell? ⟨bx, 4, none⟩ = some (.int .i64 t.pg) ∧ w'.cell? ⟨bx, 5, none⟩ = some (.int .i64 t.sl) ∧ w'.cell? ⟨bx, 6, none⟩ = some (.slice Ad t.data.length cd) ∧ w'.cell? ⟨bx, 7, none⟩ = some (.int .i64 (f : Int))) W) := Lib.hid (fun W ho => by
          have hb := ho.get HBX.out HNE.out
          exact ⟨by rw [cell_of hb]; rfl, by rw [cell_of hb]; rfl, by rw [cell_of hb]; rfl, by rw [cell_of hb]; rfl, by rw [cell_of hb]; rfl, by rw [cell_of hb]; rfl, by rw [cell_of hb]; rfl⟩)
        have HDNE : Hid (∀ k2, (Value.slice Ad t.data.length cd).ownBlock = some k2 → k2 ≠ ob) := Lib.hid (fun k2 e x => by
          have h1 := HOB.out
          have h2 := (HDOW.out.lt k2 e).2
          omega)
        have HPK : Hid (∀ W : World, Only (· = ob) w8 W → Calls Try.prog 100 #[.agg #[.int .u64 (t.row : Int), .int .u64 (t.xmin : Int), .int .u64 (t.xmax : Int), .int .i64 t.pg, .int .i64 t.sl, .slice Ad t.data.length cd]] W (FreshPost W (verL t))) := Lib.hid (fun W ho =>
          rpack_any t Ad cd _ W HOK.out (own_rd' (owns_kept HDO8.out ho (fun k2 e => HDNE.out k2 e))))
        have hw0 : IntKind.i64.wrap (4 * (k : Int)) = 4 * (k : Int) := by rw [IntKind.wrap_i64]; omega
        have hw1 : IntKind.i64.wrap (4 + 4 * (k : Int)) = 4 + 4 * (k : Int) := by rw [IntKind.wrap_i64]; omega
        have hw2 : IntKind.i64.wrap (30 + (t.data.length : Int)) = (sz : Int) := by rw [IntKind.wrap_i64]; omega
        have hw3 : IntKind.u64.wrap (sz : Int) = (sz : Int) := wrap_u64' sz (by omega)
        have hw4 : IntKind.u64.wrap (f : Int) = (f : Int) := wrap_u64' f (by omega)
        refine wp_region_held_drew (S := (fun w' => w'.cell? ⟨bx, 1, none⟩ = some (.int .u64 (t.row : Int)) ∧ w'.cell? ⟨bx, 2, none⟩ = some (.int .u64 (t.xmin : Int)) ∧ w'.cell? ⟨bx, 3, none⟩ = some (.int .u64 (t.xmax : Int)) ∧ w'.cell? ⟨bx, 4, none⟩ = some (.int .i64 t.pg) ∧ w'.cell? ⟨bx, 5, none⟩ = some (.int .i64 t.sl) ∧ w'.cell? ⟨bx, 6, none⟩ = some (.slice Ad t.data.length cd) ∧ w'.cell? ⟨bx, 7, none⟩ = some (.int .i64 (f : Int)))) (by kernel_rfl) (HS.out _ (Only.refl (· = ob) w8).drew) (fun hHeld => ?_)
        simp only [List.size_toArray, List.length_cons, List.length_nil, Nat.reduceAdd]
        (refine wpAnyH_take (i := 0) (oi := ?_) (v := ?_) ?_ (by kernel_rfl) (by decide +kernel) (by decide +kernel) ?_ (Or.inl ⟨?_, ?_⟩) (by first | assumption | exact trivial) ?_; rotate_left 2; (focus (simp only [List.getElem?_toArray, List.getElem?_cons_zero, List.getElem?_cons_succ] <;> rfl)); (focus (exact fun _ _ _ h => h)); (focus rfl); (focus (intro w hSw; (try dsimp only at hSw); go_simp; (try with_reducible rfl); done)); (try simp only [Act.put, List.setIfInBounds_toArray, List.set_cons_zero, List.set_cons_succ]))
        (refine wpAnyH_take (i := 1) (oi := ?_) (v := ?_) ?_ (by kernel_rfl) (by decide +kernel) (by decide +kernel) ?_ (Or.inl ⟨?_, ?_⟩) (by first | assumption | exact trivial) ?_; rotate_left 2; (focus (simp only [List.getElem?_toArray, List.getElem?_cons_zero, List.getElem?_cons_succ] <;> rfl)); (focus (exact fun _ _ _ h => h)); (focus rfl); (focus (intro w hSw; (try dsimp only at hSw); go_simp; (try with_reducible rfl); done)); (try simp only [Act.put, List.setIfInBounds_toArray, List.set_cons_zero, List.set_cons_succ]))
        (refine wpAnyH_take (i := 2) (oi := ?_) (v := ?_) ?_ (by kernel_rfl) (by decide +kernel) (by decide +kernel) ?_ (Or.inl ⟨?_, ?_⟩) (by first | assumption | exact trivial) ?_; rotate_left 2; (focus (simp only [List.getElem?_toArray, List.getElem?_cons_zero, List.getElem?_cons_succ] <;> rfl)); (focus (exact fun _ _ _ h => h)); (focus rfl); (focus (intro w hSw; (try dsimp only at hSw); go_simp; (try with_reducible rfl); done)); (try simp only [Act.put, List.setIfInBounds_toArray, List.set_cons_zero, List.set_cons_succ]))
        (refine wpAnyH_take (i := 3) (oi := ?_) (v := ?_) ?_ (by kernel_rfl) (by decide +kernel) (by decide +kernel) ?_ (Or.inl ⟨?_, ?_⟩) (by first | assumption | exact trivial) ?_; rotate_left 2; (focus (simp only [List.getElem?_toArray, List.getElem?_cons_zero, List.getElem?_cons_succ] <;> rfl)); (focus (exact fun _ _ _ h => h)); (focus rfl); (focus (intro w hSw; (try dsimp only at hSw); go_simp; (try with_reducible rfl); done)); (try simp only [Act.put, List.setIfInBounds_toArray, List.set_cons_zero, List.set_cons_succ]))
        (refine wpAnyH_take (i := 4) (oi := ?_) (v := ?_) ?_ (by kernel_rfl) (by decide +kernel) (by decide +kernel) ?_ (Or.inl ⟨?_, ?_⟩) (by first | assumption | exact trivial) ?_; rotate_left 2; (focus (simp only [List.getElem?_toArray, List.getElem?_cons_zero, List.getElem?_cons_succ] <;> rfl)); (focus (exact fun _ _ _ h => h)); (focus rfl); (focus (intro w hSw; (try dsimp only at hSw); go_simp; (try with_reducible rfl); done)); (try simp only [Act.put, List.setIfInBounds_toArray, List.set_cons_zero, List.set_cons_succ]))
        (refine wpAnyH_take (i := 5) (oi := ?_) (v := ?_) ?_ (by kernel_rfl) (by decide +kernel) (by decide +kernel) ?_ (Or.inl ⟨?_, ?_⟩) (by first | assumption | exact trivial) ?_; rotate_left 2; (focus (simp only [List.getElem?_toArray, List.getElem?_cons_zero, List.getElem?_cons_succ] <;> rfl)); (focus (exact fun _ _ _ h => h)); (focus rfl); (focus (intro w hSw; (try dsimp only at hSw); go_simp; (try with_reducible rfl); done)); (try simp only [Act.put, List.setIfInBounds_toArray, List.set_cons_zero, List.set_cons_succ]))
        (refine wpAnyH_take (i := 6) (oi := ?_) (v := ?_) ?_ (by kernel_rfl) (by decide +kernel) (by decide +kernel) ?_ (Or.inl ⟨?_, ?_⟩) (by first | assumption | exact trivial) ?_; rotate_left 2; (focus (simp only [List.getElem?_toArray, List.getElem?_cons_zero, List.getElem?_cons_succ] <;> rfl)); (focus (exact fun _ _ _ h => h)); (focus rfl); (focus (intro w hSw; (try dsimp only at hSw); go_simp; (try with_reducible rfl); done)); (try simp only [Act.put, List.setIfInBounds_toArray, List.set_cons_zero, List.set_cons_succ]))
        (refine wpAnyH_take (i := 8) (oi := ?_) (v := ?_) ?_ (by kernel_rfl) (by decide +kernel) (by decide +kernel) ?_ (Or.inl ⟨?_, ?_⟩) (by first | assumption | exact trivial) ?_; rotate_left 2; (focus (simp only [List.getElem?_toArray, List.getElem?_cons_zero, List.getElem?_cons_succ] <;> rfl)); (focus (exact fun _ _ _ h => h)); (focus rfl); (focus (intro w hSw; (try dsimp only at hSw); go_simp; (try with_reducible rfl); done)); (try simp only [Act.put, List.setIfInBounds_toArray, List.set_cons_zero, List.set_cons_succ]))
        (refine wpAnyH_take (i := 9) (oi := ?_) (v := ?_) ?_ (by kernel_rfl) (by decide +kernel) (by decide +kernel) ?_ (Or.inl ⟨?_, ?_⟩) (by first | assumption | exact trivial) ?_; rotate_left 2; (focus (simp only [List.getElem?_toArray, List.getElem?_cons_zero, List.getElem?_cons_succ] <;> rfl)); (focus (exact fun _ _ _ h => h)); (focus rfl); (focus (intro w hSw; (try dsimp only at hSw); go_simp; (try with_reducible rfl); done)); (try simp only [Act.put, List.setIfInBounds_toArray, List.set_cons_zero, List.set_cons_succ]))
        (refine wpAnyH_take (i := 10) (oi := ?_) (v := ?_) ?_ (by kernel_rfl) (by decide +kernel) (by decide +kernel) ?_ (Or.inl ⟨?_, ?_⟩) (by first | assumption | exact trivial) ?_; rotate_left 2; (focus (simp only [List.getElem?_toArray, List.getElem?_cons_zero, List.getElem?_cons_succ] <;> rfl)); (focus (exact fun _ _ _ h => h)); (focus rfl); (focus (intro w hSw; (try dsimp only at hSw); go_simp; (try with_reducible rfl); done)); (try simp only [Act.put, List.setIfInBounds_toArray, List.set_cons_zero, List.set_cons_succ]))
        (refine wpAnyH_take (i := 11) (oi := ?_) (v := ?_) ?_ (by kernel_rfl) (by decide +kernel) (by decide +kernel) ?_ (Or.inl ⟨?_, ?_⟩) (by first | assumption | exact trivial) ?_; rotate_left 2; (focus (simp only [List.getElem?_toArray, List.getElem?_cons_zero, List.getElem?_cons_succ] <;> rfl)); (focus (exact fun _ _ _ h => h)); (focus rfl); (focus (intro w hSw; (try dsimp only at hSw); go_simp; (try with_reducible rfl); done)); (try simp only [Act.put, List.setIfInBounds_toArray, List.set_cons_zero, List.set_cons_succ]))
        (refine wpAnyH_take (i := 12) (oi := ?_) (v := ?_) ?_ (by kernel_rfl) (by decide +kernel) (by decide +kernel) ?_ (Or.inl ⟨?_, ?_⟩) (by first | assumption | exact trivial) ?_; rotate_left 2; (focus (simp only [List.getElem?_toArray, List.getElem?_cons_zero, List.getElem?_cons_succ] <;> rfl)); (focus (exact fun _ _ _ h => h)); (focus rfl); (focus (intro w hSw; (try dsimp only at hSw); go_simp; (try with_reducible rfl); done)); (try simp only [Act.put, List.setIfInBounds_toArray, List.set_cons_zero, List.set_cons_succ]))
        (refine wpAnyH_take (i := 13) (oi := ?_) (v := ?_) ?_ (by kernel_rfl) (by decide +kernel) (by decide +kernel) ?_ (Or.inl ⟨?_, ?_⟩) (by first | assumption | exact trivial) ?_; rotate_left 2; (focus (simp only [List.getElem?_toArray, List.getElem?_cons_zero, List.getElem?_cons_succ] <;> rfl)); (focus (exact fun _ _ _ h => h)); (focus rfl); (focus (intro w hSw; (try dsimp only at hSw); go_simp; (try with_reducible rfl); done)); (try simp only [Act.put, List.setIfInBounds_toArray, List.set_cons_zero, List.set_cons_succ]))
        refine wpAnyH_ready (rs := [7]) (by kernel_rfl) (by simp) ?_
        refine AllReadyH.cons (o := ?_) ?_ ?_ AllReadyH.nil
        rotate_left 1
        (focus (simp only [List.getElem?_toArray, List.getElem?_cons_zero, List.getElem?_cons_succ] <;> rfl))
        intro K hK
        go_simp
        go_at_call 99
        refine (few_bytes f 2 _ (by omega) (by omega)).mono ?_
        rintro e w2 ⟨v2, rfl, hf2⟩
        obtain ⟨A2, c2, hv2, _, _, _⟩ := own_form hf2.own
        rw [leB_len] at hv2
        subst hv2
        have hq2 := ((Only.refl (fun _ => False) w8).drew).trans hf2.quiet
        dsimp only
        refine hK.out _ _ ?_ (fun hHeld => ?_)
        · exact HS.out _ (hq2.mono (fun _ _ x => x.elim))
        clear hK K
        (try simp only [Act.put, List.setIfInBounds_toArray, List.set_cons_zero, List.set_cons_succ])
        refine wpAnyH_ready (rs := [14]) (by kernel_rfl) (by simp) ?_
        refine AllReadyH.cons (o := ?_) ?_ ?_ AllReadyH.nil
        rotate_left 1
        (focus (simp only [List.getElem?_toArray, List.getElem?_cons_zero, List.getElem?_cons_succ] <;> rfl))
        intro K hK
        go_simp
        go_at_call 99
        refine (few_bytes sz 2 _ (by omega) (by omega)).mono ?_
        rintro e w3 ⟨v3, rfl, hf3⟩
        obtain ⟨A3, c3, hv3, _, _, _⟩ := own_form hf3.own
        rw [leB_len] at hv3
        subst hv3
        have hq3 := hq2.trans hf3.quiet
        dsimp only
        refine hK.out _ _ ?_ (fun hHeld => ?_)
        · exact HS.out _ (hq3.mono (fun _ _ x => x.elim))
        clear hK K
        (try simp only [Act.put, List.setIfInBounds_toArray, List.set_cons_zero, List.set_cons_succ])
        refine wpAnyH_ready (rs := [15]) (by kernel_rfl) (by simp) ?_
        refine AllReadyH.cons (o := ?_) ?_ ?_ AllReadyH.nil
        rotate_left 1
        (focus (simp only [List.getElem?_toArray, List.getElem?_cons_zero, List.getElem?_cons_succ] <;> rfl))
        intro K hK
        refine app_step elem_u8 rfl (.tmp 45) (.tmp 52) rfl rfl (owns_kept (fresh_own hf2 (leB_len _ _)) hf3.quiet (fun _ _ x => x)) rfl (fresh_rd hf3 (leB_len _ _)) (one_bytes _) (by unfold maxLen; omega) (by omega) ?_
        intro v4 w4 hg4
        have HF4 := Lib.hid ((Fresh.undrew hf2).app (n := 2) (m := 2) hf3.quiet (leB_len _ _) (leB_len _ _) hg4)
        have hl4 : (leB f 2 ++ leB sz 2).length = 4 := by rw [List.length_append, leB_len, leB_len]
        obtain ⟨A4, c4, hv4, _, _, _⟩ := own_form HF4.out.own
        rw [hl4] at hv4
        subst hv4
        have HLY := Lib.hid (lay_bytes ob (4 + 4 * k) c4 A4 (leB f 2 ++ leB sz 2) GG _ w4 (HBK8.out.kept HF4.out.quiet (fun x => x)) (by rw [hl4]; exact fresh_rd HF4.out hl4) (fun k2 e x => by have h1 := HF4.out.new k2 e; have h2 := HOB8.out; omega) (by rw [hl4]; omega))
        rw [hl4, show ((4 + 4 * k : Nat) : Int) = 4 + 4 * (k : Int) by omega] at HLY
        refine hK.out _ _ ?_ (fun hHeld => ?_)
        · exact HS.out _ (HF4.out.quiet.mono (fun _ _ x => x.elim))
        clear hK K
        (try simp only [Act.put, List.setIfInBounds_toArray, List.set_cons_zero, List.set_cons_succ])
        refine wpAnyH_ready (rs := [16]) (by kernel_rfl) (by simp) ?_
        refine AllReadyH.cons (o := ?_) ?_ ?_ AllReadyH.nil
        rotate_left 1
        (focus (simp only [List.getElem?_toArray, List.getElem?_cons_zero, List.getElem?_cons_succ] <;> rfl))
        intro K hK
        go_simp
        go_at_call 98
        refine (HLY.out).mono ?_
        rintro e w5 ⟨rfl, ho5, hb5⟩
        have HO5 := Lib.hid ((HF4.out.quiet.mono (T := (· = ob)) (fun _ _ x => x.elim)).trans ho5)
        have HB5 := Lib.hid hb5
        dsimp only
        refine hK.out _ _ ?_ (fun hHeld => ?_)
        · exact HS.out _ HO5.out
        clear hK K
        (try simp only [Act.put, List.setIfInBounds_toArray, List.set_cons_zero, List.set_cons_succ])
        refine wpAnyH_done (by kernel_rfl) ?_ _
        clear hHeld hf2 hf3 hg4 hq2 hq3 ho5 hb5 hl4 HLY hw0 hw1 hw2 hw3 hw4
        go_upto_region 11 with (fail)
        refine wp_region_held_drew (S := (fun w' => w'.cell? ⟨bx, 1, none⟩ = some (.int .u64 (t.row : Int)) ∧ w'.cell? ⟨bx, 2, none⟩ = some (.int .u64 (t.xmin : Int)) ∧ w'.cell? ⟨bx, 3, none⟩ = some (.int .u64 (t.xmax : Int)) ∧ w'.cell? ⟨bx, 4, none⟩ = some (.int .i64 t.pg) ∧ w'.cell? ⟨bx, 5, none⟩ = some (.int .i64 t.sl) ∧ w'.cell? ⟨bx, 6, none⟩ = some (.slice Ad t.data.length cd) ∧ w'.cell? ⟨bx, 7, none⟩ = some (.int .i64 (f : Int)))) (by kernel_rfl) (HS.out _ HO5.out.drew) (fun hHeld => ?_)
        simp only [List.size_toArray, List.length_cons, List.length_nil, Nat.reduceAdd]
        (refine wpAnyH_take (i := 0) (oi := ?_) (v := ?_) ?_ (by kernel_rfl) (by decide +kernel) (by decide +kernel) ?_ (Or.inl ⟨?_, ?_⟩) (by first | assumption | exact trivial) ?_; rotate_left 2; (focus (simp only [List.getElem?_toArray, List.getElem?_cons_zero, List.getElem?_cons_succ] <;> rfl)); (focus (exact fun _ _ _ h => h)); (focus rfl); (focus (intro w hSw; (try dsimp only at hSw); go_simp; (try with_reducible rfl); done)); (try simp only [Act.put, List.setIfInBounds_toArray, List.set_cons_zero, List.set_cons_succ]))
        (refine wpAnyH_take (i := 1) (oi := ?_) (v := ?_) ?_ (by kernel_rfl) (by decide +kernel) (by decide +kernel) ?_ (Or.inl ⟨?_, ?_⟩) (by first | assumption | exact trivial) ?_; rotate_left 2; (focus (simp only [List.getElem?_toArray, List.getElem?_cons_zero, List.getElem?_cons_succ] <;> rfl)); (focus (exact fun _ _ _ h => h)); (focus rfl); (focus (intro w hSw; (try dsimp only at hSw); go_simp; (try with_reducible rfl); done)); (try simp only [Act.put, List.setIfInBounds_toArray, List.set_cons_zero, List.set_cons_succ]))
        (refine wpAnyH_take (i := 2) (oi := ?_) (v := ?_) ?_ (by kernel_rfl) (by decide +kernel) (by decide +kernel) ?_ (Or.inl ⟨?_, ?_⟩) (by first | assumption | exact trivial) ?_; rotate_left 2; (focus (simp only [List.getElem?_toArray, List.getElem?_cons_zero, List.getElem?_cons_succ] <;> rfl)); (focus (exact fun _ _ _ h => h)); (focus rfl); (focus (intro w hSw; (try dsimp only at hSw); go_simp; (try with_reducible rfl); done)); (try simp only [Act.put, List.setIfInBounds_toArray, List.set_cons_zero, List.set_cons_succ]))
        (refine wpAnyH_take (i := 3) (oi := ?_) (v := ?_) ?_ (by kernel_rfl) (by decide +kernel) (by decide +kernel) ?_ (Or.inl ⟨?_, ?_⟩) (by first | assumption | exact trivial) ?_; rotate_left 2; (focus (simp only [List.getElem?_toArray, List.getElem?_cons_zero, List.getElem?_cons_succ] <;> rfl)); (focus (exact fun _ _ _ h => h)); (focus rfl); (focus (intro w hSw; (try dsimp only at hSw); go_simp; (try with_reducible rfl); done)); (try simp only [Act.put, List.setIfInBounds_toArray, List.set_cons_zero, List.set_cons_succ]))
        (refine wpAnyH_take (i := 4) (oi := ?_) (v := ?_) ?_ (by kernel_rfl) (by decide +kernel) (by decide +kernel) ?_ (Or.inl ⟨?_, ?_⟩) (by first | assumption | exact trivial) ?_; rotate_left 2; (focus (simp only [List.getElem?_toArray, List.getElem?_cons_zero, List.getElem?_cons_succ] <;> rfl)); (focus (exact fun _ _ _ h => h)); (focus rfl); (focus (intro w hSw; (try dsimp only at hSw); go_simp; (try with_reducible rfl); done)); (try simp only [Act.put, List.setIfInBounds_toArray, List.set_cons_zero, List.set_cons_succ]))
        refine wpAnyH_ready (rs := [5]) (by kernel_rfl) (by simp) ?_
        refine AllReadyH.cons (o := ?_) ?_ ?_ AllReadyH.nil
        rotate_left 1
        (focus (simp only [List.getElem?_toArray, List.getElem?_cons_zero, List.getElem?_cons_succ] <;> rfl))
        intro K hK
        go_simp
        go_at_call 100
        refine (HPK.out _ HO5.out.drew).mono ?_
        rintro e w6 ⟨v6, rfl, hf6⟩
        obtain ⟨A6, c6, hv6, _, _, _⟩ := own_form hf6.own
        rw [verL_len, HTS.out] at hv6
        subst hv6
        have HO6 := Lib.hid (HO5.out.drew.trans (hf6.quiet.mono (T := (· = ob)) (fun _ _ x => x.elim)))
        have HLY := Lib.hid (lay_bytes ob f c6 A6 (verL t) _ _ w6 ((show Bk w5.drew ob 512 _ _ from HB5.out).kept hf6.quiet (fun x => x)) (by rw [verL_len, HTS.out]; exact fresh_rd hf6 (by rw [verL_len, HTS.out])) (fun k2 e x => by have h1 := hf6.new k2 e; have h2 := HOB8.out; have h3 := HO5.out.size; simp at h1; omega) (by rw [verL_len, HTS.out]; omega))
        rw [verL_len, HTS.out] at HLY
        dsimp only
        refine hK.out _ _ ?_ (fun hHeld => ?_)
        · exact HS.out _ HO6.out
        clear hK K
        (try simp only [Act.put, List.setIfInBounds_toArray, List.set_cons_zero, List.set_cons_succ])
        refine wpAnyH_ready (rs := [6]) (by kernel_rfl) (by simp) ?_
        refine AllReadyH.cons (o := ?_) ?_ ?_ AllReadyH.nil
        rotate_left 1
        (focus (simp only [List.getElem?_toArray, List.getElem?_cons_zero, List.getElem?_cons_succ] <;> rfl))
        intro K hK
        go_simp
        go_at_call 98
        refine (HLY.out).mono ?_
        rintro e w7 ⟨rfl, ho7, hb7⟩
        have HO7 := Lib.hid (HO6.out.trans ho7)
        have HB7 := Lib.hid hb7
        dsimp only
        refine hK.out _ _ ?_ (fun hHeld => ?_)
        · exact HS.out _ HO7.out
        clear hK K
        (try simp only [Act.put, List.setIfInBounds_toArray, List.set_cons_zero, List.set_cons_succ])
        refine wpAnyH_done (by kernel_rfl) ?_ _
        have HN7 : Hid (Quiet w w7 ∧ ∃ G, Bk w7 ob 512 5 G ∧ ByW g L (k + 1) G) := Lib.hid ⟨HQ8.out.trans' HO7.out (fun k2 hk2 e => by have := HOB.out; omega), _, HB7.out, HBN.out⟩
        clear hHeld hf6 ho7 hb7 HLY
        go_wp2
        go_roundw
        case rel => exact ⟨k + 1, by omega, by go_num, HN7.out.1, HN7.out.2⟩
        case measure => simp [intOf]; omega
    · obtain rfl : k = n := by omega
      have HFIN := Lib.hid (bk_fresh HQ.out (by rw [HOB.out]; exact Nat.le_refl _) HBK.out (ByW.all (by rw [HN.out]; exact HBY.out)))
      clear hq
      go_wp2
      go_ret
      exact ⟨_, rfl, HFIN.out⟩

end Go.Proofs.Ytbibmgcklilpmaa
