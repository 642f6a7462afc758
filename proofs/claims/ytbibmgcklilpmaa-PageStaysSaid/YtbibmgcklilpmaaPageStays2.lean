/- PageStays, the walk: UNDER WAY. No condition. -/
import Derived.Test.YtbibmgcklilpmaaPageStays
import Derived.Test.YtbibmgcklilpmaaHeapPlain
import Derived.Test.YtbibmgcklilpmaaLast
import Derived.Test.YtbibmgcklilpmaaRefPage
namespace Go.Proofs.Ytbibmgcklilpmaa
open Go.RowKit Go.Lap

theorem one_tupC (o : Option Tup) {d : Value} (h : d.oneCell' = true) : ∀ u ∈ tupC o d, u.oneCell' = true := by
  intro u hu
  rcases o with _ | t
  · simp [tupC] at hu
    rcases hu with rfl | rfl | rfl <;> rfl
  · simp [tupC] at hu
    rcases hu with rfl | rfl | rfl | rfl | rfl | rfl <;> first | rfl | exact h

theorem take_was {T : List (Option Tup)} {k : Nat} (hk : k < T.length) : T.take (k + 1) = T.take k ++ [tupAt T (k : Int)] := by
  rw [List.take_add_one, tupAt_nat, List.getElem?_eq_getElem hk]
  rfl

theorem WasW.base {w w2 wr : World} {v bv : Value} {ts : List (Option Tup)} {rows : List (List Value)} (h : WasW w2 wr v bv ts rows) (hq : Quiet w w2) : WasW w wr v bv ts rows :=
  ⟨hq.trans h.quiet, h.own, h.len, h.row, h.bown, (fun k e => by have := h.new.1 k e; have := hq.size; omega), fun k e => by have := h.new.2 k e; have := hq.size; omega⟩

theorem stays_set {T : List (Option Tup)} {i : Int} {tt : Tup} (h : tupAt T i = some tt) (u : Option Tup) : ∀ s : Int, s ≠ i → tupAt (T.set i.toNat u) s = tupAt T s := by
  intro s hs
  obtain ⟨s0, hx⟩ := tupAt_some h
  rw [tupAt_set T i.toNat (List.getElem?_eq_some_iff.1 hx).1, if_neg (by omega)]

theorem stays_ins (T : List (Option Tup)) (u : Tup) : ∀ s : Int, s ≠ (pInsT T u).1 → (pInsT T u).2.1 = 0 → tupAt (pInsT T u).2.2 s = tupAt T s := by
  intro s hs h0
  unfold pInsT at hs h0 ⊢
  split at hs
  · rename_i h1
    rw [if_pos h1]
  · rename_i h1
    rw [if_neg h1] at h0 ⊢
    split at hs
    · rename_i h2
      rw [if_pos h2]
    · rename_i h2
      rw [if_neg h2, tupAt_ins, if_neg hs]

theorem ins_err {T : List (Option Tup)} {u : Tup} (h : (pInsT T u).2.1 ≠ 0) : (pInsT T u).2.2 = T := by
  unfold pInsT at h ⊢
  split
  · rfl
  · rename_i h1
    rw [if_neg h1] at h
    split
    · rfl
    · rename_i h2
      rw [if_neg h2] at h
      exact absurd rfl h

theorem ins_get {T : List (Option Tup)} {u : Tup} (h : (pInsT T u).2.1 = 0) : tupAt (pInsT T u).2.2 (pInsT T u).1 = some u := by
  unfold pInsT at h ⊢
  split at h
  · cases h
  · rename_i h1
    rw [if_neg h1]
    split at h
    · cases h
    · rename_i h2
      rw [if_neg h2, tupAt_ins, if_pos rfl]

theorem PageT.okAt {w : World} {b : Nat} {T : List (Option Tup)} {i : Int} {t : Tup} (h : PageT w b T) (hi : tupAt T i = some t) : t.Ok := by
  obtain ⟨L, st, ⟨g, _, hp⟩, rfl⟩ := h
  rw [slot_tups] at hi
  rcases hs : slotAt L i with _ | ⟨f, t'⟩
  · rw [hs] at hi; cases hi
  · rw [hs] at hi
    injection hi with hi
    subst hi
    unfold slotAt at hs
    split at hs
    · cases hs
    · rcases hx : L[i.toNat]? with _ | s
      · rw [hx] at hs; cases hs
      · rw [hx] at hs
        exact (hp.ver i.toNat f t' (by rw [hx]; exact congrArg some hs)).2.2.1

theorem was_row {w wr : World} {v bv : Value} {T : List (Option Tup)} {rows : List (List Value)} {q : Nat} (h : WasW w wr v bv T rows) (hq : q < T.length) {o : Option Tup} (ho : tupAt T (q : Int) = o) :
    ∃ d, rows[q]? = some (tupC o d) ∧ DatIs wr o d := by
  refine h.row q o ?_
  rw [tupAt_nat, List.getElem?_eq_getElem hq] at ho
  rw [List.getElem?_eq_getElem hq]
  exact congrArg some ho

theorem was_there {w wr : World} {v : Value} {gb n cpb : Nat} {T : List (Option Tup)} {rows : List (List Value)} {q : Nat} (h : WasW w wr v (.slice (some ⟨gb, 0, none⟩) n cpb) T rows) (hq : q < T.length) {o : Option Tup} (ho : tupAt T (q : Int) = o) :
    wr.cell? ⟨gb, q, none⟩ = some (.bool o.isSome) := by
  have hx : (T.map (fun o => Value.bool o.isSome))[q]? = some (.bool o.isSome) := by
    rw [tupAt_nat, List.getElem?_eq_getElem hq] at ho
    rw [List.getElem?_map, List.getElem?_eq_getElem hq]
    rw [← ho]; rfl
  have := h.bown.cells rfl q _ hx
  rw [add_none, Nat.zero_add] at this
  exact this

theorem was_at {w wr : World} {bv : Value} {g n cp : Nat} {T : List (Option Tup)} {rows : List (List Value)} {q : Nat} {r : List Value} (h : WasW w wr (.slice (some ⟨g, 0, none⟩) n cp) bv T rows) (hr : rows[q]? = some r) {j : Nat} (hj : j < 6) {u : Value} (hu : r[j]? = some u) :
    wr.cell? ⟨g, q * 6 + j, none⟩ = some u := by
  have hx := flat_get h.len6 hr hj
  rw [hu] at hx
  have := h.own.cells rfl _ _ hx
  rw [add_none, Nat.zero_add] at this
  exact this

theorem was_none {w wr : World} {g n cp gb nb cpb : Nat} {T : List (Option Tup)} {rows : List (List Value)} {q : Nat} (h : WasW w wr (.slice (some ⟨g, 0, none⟩) n cp) (.slice (some ⟨gb, 0, none⟩) nb cpb) T rows) (hq : q < T.length) (ho : tupAt T (q : Int) = none) :
    wr.cell? ⟨g, q * 6, none⟩ = some (.int .u64 0) ∧ wr.cell? ⟨g, q * 6 + 1, none⟩ = some (.int .u64 0) ∧ wr.cell? ⟨g, q * 6 + 2, none⟩ = some (.int .u64 0) ∧ wr.cell? ⟨g, q * 6 + 3, none⟩ = some (.int .i64 0) ∧ wr.cell? ⟨g, q * 6 + 4, none⟩ = some (.int .i64 0) ∧ wr.cell? ⟨g, q * 6 + 5, none⟩ = some (.slice none 0 0) ∧ wr.cell? ⟨gb, q, none⟩ = some (.bool false) := by
  obtain ⟨d, hr, _⟩ := was_row h hq ho
  exact ⟨was_at h hr (j := 0) (by omega) rfl, was_at h hr (j := 1) (by omega) rfl, was_at h hr (j := 2) (by omega) rfl, was_at h hr (j := 3) (by omega) rfl, was_at h hr (j := 4) (by omega) rfl, was_at h hr (j := 5) (by omega) rfl, was_there h hq ho⟩

theorem was_some {w wr : World} {g n cp gb nb cpb : Nat} {T : List (Option Tup)} {rows : List (List Value)} {q : Nat} {t : Tup} (h : WasW w wr (.slice (some ⟨g, 0, none⟩) n cp) (.slice (some ⟨gb, 0, none⟩) nb cpb) T rows) (hq : q < T.length) (ho : tupAt T (q : Int) = some t) :
    ∃ A c, (wr.cell? ⟨g, q * 6, none⟩ = some (.int .u64 (t.row : Int)) ∧ wr.cell? ⟨g, q * 6 + 1, none⟩ = some (.int .u64 (t.xmin : Int)) ∧ wr.cell? ⟨g, q * 6 + 2, none⟩ = some (.int .u64 (t.xmax : Int)) ∧ wr.cell? ⟨g, q * 6 + 3, none⟩ = some (.int .i64 t.pg) ∧ wr.cell? ⟨g, q * 6 + 4, none⟩ = some (.int .i64 t.sl) ∧ wr.cell? ⟨g, q * 6 + 5, none⟩ = some (.slice A t.data.length c) ∧ wr.cell? ⟨gb, q, none⟩ = some (.bool true)) ∧ wr.ownsRow 0 5 1 (.slice A t.data.length c) t.data.length (bytesV t.data) := by
  obtain ⟨d, hr, hd⟩ := was_row h hq ho
  obtain ⟨A, c, rfl, hown⟩ := hd t rfl
  exact ⟨A, c, ⟨was_at h hr (j := 0) (by omega) rfl, was_at h hr (j := 1) (by omega) rfl, was_at h hr (j := 2) (by omega) rfl, was_at h hr (j := 3) (by omega) rfl, was_at h hr (j := 4) (by omega) rfl, was_at h hr (j := 5) (by omega) rfl, was_there h hq ho⟩, hown⟩

set_option maxHeartbeats 8000000 in
set_option maxRecDepth 100000 in
theorem pageStays_any (A : Option Addr) (n cap : Nat) (dn : Nat) (i : Int) (t : Tup) (A' : Option Addr) (cap' : Nat) (w : World) (h : OpsIn5 w w.heap.size A n) (hn : n ≤ cap) (hcap : cap ≤ maxLen)
    (hdn : dn < 256) (hlc : t.data.length ≤ cap') (hcm : cap' ≤ maxLen) (hby : ∀ x ∈ t.data, x < 256) (hd : Rd w (· < w.heap.size) 1 A' t.data.length (bytesV t.data)) :
    Calls Try.prog 15 #[.slice A n cap, .agg #[.int .u8 (dn : Int), .int .i64 i, .int .u64 (t.row : Int), .int .u64 (t.xmin : Int), .int .u64 (t.xmax : Int), .int .i64 t.pg, .int .i64 t.sl, .slice A' t.data.length cap']] w fun e w' => e = .returned (.bool true) ∧ Below w.heap.size w w' := by
  have HI := Lib.hid h
  have HHN := Lib.hid hn
  have HHC := Lib.hid hcap
  have HLC := Lib.hid hlc
  have HCM := Lib.hid hcm
  have HBY := Lib.hid hby
  have HD := Lib.hid hd
  have HO0 := Lib.hid (alloc_new w (.cells #[.int .u8 (dn : Int), .int .i64 i, .int .u64 (t.row : Int), .int .u64 (t.xmin : Int), .int .u64 (t.xmax : Int), .int .i64 t.pg, .int .i64 t.sl, .slice A' t.data.length cap'] 119))
  have HQ0 : Hid (Quiet w (w.alloc (.cells #[.int .u8 (dn : Int), .int .i64 i, .int .u64 (t.row : Int), .int .u64 (t.xmin : Int), .int .u64 (t.xmax : Int), .int .i64 t.pg, .int .i64 t.sl, .slice A' t.data.length cap'] 119))) := (Only.refl _ _).alloc _
  clear h hn hcap hlc hcm hby hd
  go_enter Try.func15, Try.ntmps15
  go_wp2_with fail
  refine (awake5 _).mono ?_
  rintro e w1 ⟨rfl, hq1⟩
  have HQ1 := Lib.hid (HQ0.out.trans hq1)
  have HO1 := Lib.hid (hq1.get HO0.out (fun x => x))
  clear hq1 HQ0 HO0
  have HBD := Lib.hid (build_any A n cap w1 w.heap.size HQ1.out.size (HI.out.kept (onward (Below.refl _ _) (Nat.le_refl _) HQ1.out (fun _ x => x.elim))) HHN.out HHC.out)
  go_wp2_with fail
  refine HBD.out.mono ?_
  rintro e w2 ⟨pb, L, st, rfl, hq2, hp2, hn2⟩
  have HQ2 := Lib.hid (HQ1.out.trans hq2)
  have HO2 := Lib.hid (hq2.get HO1.out (fun x => x))
  have HPN : Hid (w.heap.size ≤ pb) := by have h1 := HQ1.out.size; show w.heap.size ≤ pb; omega
  have HPT : Hid (PageT w2 pb (tups L)) := ⟨L, st, hp2, rfl⟩
  obtain ⟨T, hT⟩ : ∃ T, tups L = T := ⟨_, rfl⟩
  rw [hT] at HPT
  have HLEN := Lib.hid HPT.out.len
  obtain ⟨m, hm⟩ : ∃ m, T.length = m := ⟨_, rfl⟩
  have HM := Lib.hid hm
  have hm127 : m ≤ 127 := by rw [← hm]; exact HLEN.out
  have HSL := Lib.hid (pageT_slots pb T w2 HPT.out)
  rw [hm] at HSL
  clear hq2 hp2 hn2 HBD HQ1 HO1 hT hm HLEN
  go_wp2_with fail
  refine HSL.out.mono ?_
  rintro e w3 ⟨rfl, rfl⟩
  go_wp2_with fail
  go_loopw [27, 6, 7, 9, 10, 11] (fun c cv cb _ _ _ wr => ∃ (k : Nat) (v' bv' : Value) (rows : List (List Value)), k ≤ m ∧ c = .int .i64 (k : Int) ∧ v' = cv ∧ bv' = cb ∧ WasW w2 wr v' bv' (T.take k) rows) (fun c _ _ _ _ _ _ => m - (intOf c).toNat)
  case atStart => exact ⟨0, _, _, [], Nat.zero_le _, rfl, rfl, rfl, WasW.start (Only.refl _ _)⟩
  case round =>
    obtain ⟨k, v', bv', rows, hk, rfl, rfl, rfl, hW⟩ := hrel
    have HW := Lib.hid hW
    have HP := Lib.hid (HPT.out.kept hW.quiet (fun x => x))
    clear hW
    by_cases hlt : k < m
    · have HTK := Lib.hid (take_was (show k < T.length by rw [HM.out]; exact hlt))
      have hlk : (T.take k).length = k := by rw [List.length_take, HM.out]; omega
      have HLK := Lib.hid hlk
      rcases hs : tupAt T (k : Int) with _ | tt
      · have HG := Lib.hid (pageT_get_none pb T (k : Int) wr HP.out hs)
        rw [hs] at HTK
        clear hs hlk
        go_wp2_with fail
        refine HG.out.mono ?_
        rintro e w7 ⟨rfl, hq7⟩
        have HW7 := Lib.hid ((HW.out.quietly hq7).quietly ((Only.refl (fun _ => False) w7).alloc (.cells #[.int .u64 0, .int .u64 0, .int .u64 0, .int .i64 0, .int .i64 0, .slice none 0 0] 54)))
        clear hq7 HG HW
        go_upto_region 11 with fail
        have z0 := alloc_new w7 (.cells #[.int .u64 0, .int .u64 0, .int .u64 0, .int .i64 0, .int .i64 0, .slice none 0 0] 54)
        obtain ⟨y0, y1, y2, y3, y4, y5⟩ := zero_cells z0
        generalize w7.alloc (.cells #[.int .u64 0, .int .u64 0, .int .u64 0, .int .i64 0, .int .i64 0, .slice none 0 0] 54) = w8 at HW7 y0 y1 y2 y3 y4 y5 ⊢
        generalize w7.heap.size = b8 at y0 y1 y2 y3 y4 y5 ⊢
        clear z0
        have HOT := Lib.hid (owns_kept HW7.out.own ((Only.refl (fun _ => False) w8).alloc (.cells #[.int .u64 0, .int .u64 0, .int .u64 0, .int .i64 0, .int .i64 0, .slice none 0 0] 54)) (fun _ _ x => x))
        rw [HLK.out] at HOT
        go_wp2_with (at_builtin; go_must (refine app elem_tup rfl (.tmp 36) (.tmp 38) rfl rfl HOT.out rfl (Rd.new w8 6 1 (tupC none (.slice none 0 0)) _ (fun _ => True) rfl trivial) (one_tupC none (d := .slice none 0 0) rfl) (by unfold maxLen; omega) (by omega) ?_))
        intro v4 w4 hg4
        have HG4 := Lib.hid hg4
        have HBN : Hid (∀ k, bv'.ownBlock = some k → ¬ v'.ownBlock = some k) := fun k e x => by
          obtain ⟨z, hz⟩ := own_blk HW7.out.bown e
          obtain ⟨y, hy⟩ := own_blk HW7.out.own x
          exact ne_type hz hy (by decide) rfl
        have HOB := Lib.hid (owns_kept (owns_kept (owns_kept HW7.out.bown ((Only.refl (fun _ => False) w8).alloc (.cells #[.int .u64 0, .int .u64 0, .int .u64 0, .int .i64 0, .int .i64 0, .slice none 0 0] 54)) (fun _ _ x => x)) hg4.only (fun k e x => HBN.out k e x)) ((Only.refl (fun _ => False) w4).alloc (.cells #[.bool false] 4)) (fun _ _ x => x))
        rw [HLK.out] at HOB
        clear hg4
        go_wp2_with (at_builtin; go_must (refine app elem_bool rfl (.tmp 40) (.tmp 42) rfl rfl HOB.out rfl (Rd.one w4 (.bool false) 4 (0, 0) (S := fun _ => True) trivial) (fun u hu => by simp at hu; rw [hu]; rfl) (by unfold maxLen; omega) (by omega) ?_))
        intro v5 w5 hg5
        have HWP : Hid (∃ rows', WasW w2 w5 v4 v5 (T.take (k + 1)) rows') := by
          have h1 : Grew (w8.alloc (.cells #[.int .u64 0, .int .u64 0, .int .u64 0, .int .i64 0, .int .i64 0, .slice none 0 0] 54)) w4 54 6 v' v4 ((T.take k).length + 1) (rows.flatten ++ tupC none (.slice none 0 0)) := by rw [HLK.out]; exact HG4.out
          have h2 : Grew (w4.alloc (.cells #[.bool false] 4)) w5 4 1 bv' v5 ((T.take k).length + 1) ((T.take k).map (fun o => .bool o.isSome) ++ [.bool false]) := by rw [HLK.out, List.map_take]; exact hg5
          have := HW7.out.push (o := none) (d := .slice none 0 0) (fun t e => by cases e) h1 h2
          rw [← HTK.out] at this
          exact ⟨_, this⟩
        clear hg5 HG4 HOB HOT HBN
        obtain ⟨rows', hw'⟩ := HWP.out
        have HWN := Lib.hid hw'
        clear hw' HWP
        go_wp2
        go_roundw
        case rel => exact ⟨k + 1, _, _, rows', by omega, by go_num, rfl, rfl, HWN.out⟩
        case measure => simp [intOf]; omega
      · have HG := Lib.hid (pageT_get_some pb tt T (k : Int) wr HP.out hs)
        rw [hs] at HTK
        clear hs hlk
        go_wp2_with fail
        refine HG.out.mono ?_
        rintro e w7 ⟨A2, c2, rfl, hf7⟩
        unfold tupV
        have hq7 := hf7.quiet
        have HDI : Hid (DatIs (w7.alloc (.cells #[.int .u64 (tt.row : Int), .int .u64 (tt.xmin : Int), .int .u64 (tt.xmax : Int), .int .i64 tt.pg, .int .i64 tt.sl, .slice A2 tt.data.length c2] 54)) (some tt) (.slice A2 tt.data.length c2)) := fun t' e => by
          injection e with e
          subst e
          exact ⟨A2, c2, rfl, owns_kept hf7.own ((Only.refl (fun _ => False) w7).alloc (.cells #[.int .u64 (tt.row : Int), .int .u64 (tt.xmin : Int), .int .u64 (tt.xmax : Int), .int .i64 tt.pg, .int .i64 tt.sl, .slice A2 tt.data.length c2] 54)) (fun _ _ x => x)⟩
        have HW7 := Lib.hid ((HW.out.quietly hq7).quietly ((Only.refl (fun _ => False) w7).alloc (.cells #[.int .u64 (tt.row : Int), .int .u64 (tt.xmin : Int), .int .u64 (tt.xmax : Int), .int .i64 tt.pg, .int .i64 tt.sl, .slice A2 tt.data.length c2] 54)))
        clear hq7 hf7 HG HW
        go_upto_region 11 with fail
        have z0 := alloc_new w7 (.cells #[.int .u64 (tt.row : Int), .int .u64 (tt.xmin : Int), .int .u64 (tt.xmax : Int), .int .i64 tt.pg, .int .i64 tt.sl, .slice A2 tt.data.length c2] 54)
        obtain ⟨y0, y1, y2, y3, y4, y5⟩ := box_cells z0
        generalize w7.alloc (.cells #[.int .u64 (tt.row : Int), .int .u64 (tt.xmin : Int), .int .u64 (tt.xmax : Int), .int .i64 tt.pg, .int .i64 tt.sl, .slice A2 tt.data.length c2] 54) = w8 at HW7 HDI y0 y1 y2 y3 y4 y5 ⊢
        generalize w7.heap.size = b8 at y0 y1 y2 y3 y4 y5 ⊢
        clear z0
        have HOT := Lib.hid (owns_kept HW7.out.own ((Only.refl (fun _ => False) w8).alloc (.cells #[.int .u64 (tt.row : Int), .int .u64 (tt.xmin : Int), .int .u64 (tt.xmax : Int), .int .i64 tt.pg, .int .i64 tt.sl, .slice A2 tt.data.length c2] 54)) (fun _ _ x => x))
        rw [HLK.out] at HOT
        go_wp2_with (at_builtin; go_must (refine app elem_tup rfl (.tmp 36) (.tmp 38) rfl rfl HOT.out rfl (Rd.new w8 6 1 (tupC (some tt) (.slice A2 tt.data.length c2)) _ (fun _ => True) rfl trivial) (one_tupC (some tt) (d := .slice A2 tt.data.length c2) rfl) (by unfold maxLen; omega) (by omega) ?_))
        intro v4 w4 hg4
        have HG4 := Lib.hid hg4
        have HBN : Hid (∀ k, bv'.ownBlock = some k → ¬ v'.ownBlock = some k) := fun k e x => by
          obtain ⟨z, hz⟩ := own_blk HW7.out.bown e
          obtain ⟨y, hy⟩ := own_blk HW7.out.own x
          exact ne_type hz hy (by decide) rfl
        have HOB := Lib.hid (owns_kept (owns_kept (owns_kept HW7.out.bown ((Only.refl (fun _ => False) w8).alloc (.cells #[.int .u64 (tt.row : Int), .int .u64 (tt.xmin : Int), .int .u64 (tt.xmax : Int), .int .i64 tt.pg, .int .i64 tt.sl, .slice A2 tt.data.length c2] 54)) (fun _ _ x => x)) hg4.only (fun k e x => HBN.out k e x)) ((Only.refl (fun _ => False) w4).alloc (.cells #[.bool true] 4)) (fun _ _ x => x))
        rw [HLK.out] at HOB
        clear hg4
        go_wp2_with (at_builtin; go_must (refine app elem_bool rfl (.tmp 40) (.tmp 42) rfl rfl HOB.out rfl (Rd.one w4 (.bool true) 4 (0, 0) (S := fun _ => True) trivial) (fun u hu => by simp at hu; rw [hu]; rfl) (by unfold maxLen; omega) (by omega) ?_))
        intro v5 w5 hg5
        have HWP : Hid (∃ rows', WasW w2 w5 v4 v5 (T.take (k + 1)) rows') := by
          have h1 : Grew (w8.alloc (.cells #[.int .u64 (tt.row : Int), .int .u64 (tt.xmin : Int), .int .u64 (tt.xmax : Int), .int .i64 tt.pg, .int .i64 tt.sl, .slice A2 tt.data.length c2] 54)) w4 54 6 v' v4 ((T.take k).length + 1) (rows.flatten ++ tupC (some tt) (.slice A2 tt.data.length c2)) := by rw [HLK.out]; exact HG4.out
          have h2 : Grew (w4.alloc (.cells #[.bool true] 4)) w5 4 1 bv' v5 ((T.take k).length + 1) ((T.take k).map (fun o => .bool o.isSome) ++ [.bool true]) := by rw [HLK.out, List.map_take]; exact hg5
          have := HW7.out.push (o := some tt) (d := .slice A2 tt.data.length c2) HDI.out h1 h2
          rw [← HTK.out] at this
          exact ⟨_, this⟩
        clear hg5 HG4 HOB HOT HBN
        obtain ⟨rows', hw'⟩ := HWP.out
        have HWN := Lib.hid hw'
        clear hw' HWP
        go_wp2
        go_roundw
        case rel => exact ⟨k + 1, _, _, rows', by omega, by go_num, rfl, rfl, HWN.out⟩
        case measure => simp [intOf]; omega
    · obtain rfl : k = m := by omega
      have HWT : Hid (WasW w wr v' bv' T rows) := by
        have := HW.out.base HQ2.out
        rw [List.take_of_length_le (by rw [HM.out]; exact Nat.le_refl _)] at this
        exact this
      have HQR : Hid (Quiet w wr) := HWT.out.quiet
      have HOR := Lib.hid (HW.out.quiet.get HO2.out (fun x => x))
      obtain ⟨u, hu⟩ : ∃ u, t.few = u := ⟨_, rfl⟩
      have HUB : Hid (∀ x ∈ u.data, x < 256) := by rw [← hu]; exact fun x hx => HBY.out x (List.mem_of_mem_take hx)
      have HFEW := Lib.hid (few_any t A' cap' _ wr (HD.out.kept HQR.out (fun _ _ x => x)) HLC.out HCM.out)
      rw [hu] at HFEW
      unfold tupV at HFEW
      obtain ⟨o0, o1, o2, o3, o4, o5, o6, o7⟩ : wr.cell? ⟨w.heap.size, 0, none⟩ = some (.int .u8 (dn : Int)) ∧ wr.cell? ⟨w.heap.size, 1, none⟩ = some (.int .i64 i) ∧ wr.cell? ⟨w.heap.size, 2, none⟩ = some (.int .u64 (t.row : Int)) ∧ wr.cell? ⟨w.heap.size, 3, none⟩ = some (.int .u64 (t.xmin : Int)) ∧ wr.cell? ⟨w.heap.size, 4, none⟩ = some (.int .u64 (t.xmax : Int)) ∧ wr.cell? ⟨w.heap.size, 5, none⟩ = some (.int .i64 t.pg) ∧ wr.cell? ⟨w.heap.size, 6, none⟩ = some (.int .i64 t.sl) ∧ wr.cell? ⟨w.heap.size, 7, none⟩ = some (.slice A' t.data.length cap') := ⟨by rw [cell_of HOR.out]; rfl, by rw [cell_of HOR.out]; rfl, by rw [cell_of HOR.out]; rfl, by rw [cell_of HOR.out]; rfl, by rw [cell_of HOR.out]; rfl, by rw [cell_of HOR.out]; rfl, by rw [cell_of HOR.out]; rfl, by rw [cell_of HOR.out]; rfl⟩
      clear HW hu HSL
      go_wp2_with fail
      refine HFEW.out.mono ?_
      rintro e w4 ⟨A1, n1, rfl, hf4⟩
      unfold tupV
      have q5 : Quiet wr (w4.alloc (.cells #[.int .u64 (u.row : Int), .int .u64 (u.xmin : Int), .int .u64 (u.xmax : Int), .int .i64 u.pg, .int .i64 u.sl, .slice A1 u.data.length n1] 54)) := hf4.quiet.alloc _
      have HW5 := Lib.hid (HWT.out.quietly q5)
      have HP5 := Lib.hid (HP.out.kept q5 (fun x => x))
      have HO5 := Lib.hid (q5.get HOR.out (fun x => x))
      have HB5 := Lib.hid (alloc_new w4 (.cells #[.int .u64 (u.row : Int), .int .u64 (u.xmin : Int), .int .u64 (u.xmax : Int), .int .i64 u.pg, .int .i64 u.sl, .slice A1 u.data.length n1] 54))
      have HR5 := Lib.hid (owns_kept hf4.own ((Only.refl (fun _ => False) w4).alloc (.cells #[.int .u64 (u.row : Int), .int .u64 (u.xmin : Int), .int .u64 (u.xmax : Int), .int .i64 u.pg, .int .i64 u.sl, .slice A1 u.data.length n1] 54)) (fun _ _ x => x))
      clear hf4 q5 HFEW o0 o1 o2 o3 o4 o5 o6 o7 HP HWT HOR
      go_upto_region 14 with fail
      generalize w4.alloc (.cells #[.int .u64 (u.row : Int), .int .u64 (u.xmin : Int), .int .u64 (u.xmax : Int), .int .i64 u.pg, .int .i64 u.sl, .slice A1 u.data.length n1] 54) = w5 at HW5 HP5 HO5 HB5 HR5 ⊢
      generalize w4.heap.size = b5 at HB5 ⊢
      have o0 : w5.cell? ⟨w.heap.size, 0, none⟩ = some (.int .u8 (dn : Int)) := by rw [cell_of HO5.out]; rfl
      have o1 : w5.cell? ⟨w.heap.size, 1, none⟩ = some (.int .i64 i) := by rw [cell_of HO5.out]; rfl
      obtain ⟨r3, hr3⟩ : ∃ r3, dn % 3 = r3 := ⟨_, rfl⟩
      have ht3 : (dn : Int).tmod 3 = (r3 : Int) := by rw [Int.tmod_eq_emod_of_nonneg (by omega)]; omega
      have hw3 : IntKind.u8.wrap (r3 : Int) = (r3 : Int) := wrapU8 r3 (by omega)
      go_upto_block 2 with (fail)
      go_cut [13, 14, 15, 16] (fun s13 _ _ _ wx => ∃ (z : Int) (T' : List (Option Tup)), s13 = .int .i64 z ∧ PageT wx pb T' ∧ WasW w wx v' bv' T rows ∧ ∀ s : Int, s ≠ z → tupAt T' s = tupAt T s)
      case first =>
        by_cases h0 : r3 = 0
        · subst h0
          obtain ⟨c0, c1, c2, c3, c4, c5⟩ := box_cells HB5.out
          have HIN := Lib.hid (pageT_insert pb T u A1 n1 _ w5 HP5.out HUB.out (own_rd HR5.out))
          have HSI := Lib.hid (stays_ins T u)
          have HIE := Lib.hid (@ins_err T u)
          have HIG := Lib.hid (@ins_get T u)
          obtain ⟨cc, hcc⟩ := HP5.out.blk
          have HCC := Lib.hid hcc
          obtain ⟨rr, hrr⟩ : ∃ rr, pInsT T u = rr := ⟨_, rfl⟩
          rw [hrr] at HIN HSI HIE HIG
          obtain ⟨p8, er, T8⟩ := rr
          unfold tupV at HIN
          clear hrr hcc
          go_wp2_with fail
          refine HIN.out.mono ?_
          rintro e w6 ⟨rfl, ho6, hp6⟩
          have HW6 := Lib.hid (HW5.out.page HCC.out HPN.out ho6)
          have HP6 := Lib.hid hp6
          have HB6 := Lib.hid (ho6.get HB5.out (fun e => ne_type HB5.out HCC.out (by decide) e))
          have HR6 := Lib.hid (owns_kept HR5.out ho6 (fun k e x => by obtain ⟨z, hz⟩ := own_blk HR5.out e; exact ne_type hz HCC.out (by decide) x))
          clear ho6 hp6 HIN c0 c1 c2 c3 c4 c5
          by_cases he : er = 0
          · subst he
            have HGT := Lib.hid (pageT_get_some pb u T8 p8 w6 HP6.out (HIG.out rfl))
            go_wp2_with fail
            refine HGT.out.mono ?_
            rintro e w7 ⟨A9, c9, rfl, hf9⟩
            unfold tupV
            have q7 : Quiet w6 (w7.alloc (.cells #[.int .u64 (u.row : Int), .int .u64 (u.xmin : Int), .int .u64 (u.xmax : Int), .int .i64 u.pg, .int .i64 u.sl, .slice A9 u.data.length c9] 54)) := hf9.quiet.alloc _
            have HW8 := Lib.hid (HW6.out.quietly q7)
            have HP8 := Lib.hid (HP6.out.kept q7 (fun x => x))
            have HB8 := Lib.hid (q7.get HB6.out (fun x => x))
            have HR8 := Lib.hid (owns_kept HR6.out q7 (fun _ _ x => x))
            have HR9 := Lib.hid (owns_kept hf9.own ((Only.refl (fun _ => False) w7).alloc (.cells #[.int .u64 (u.row : Int), .int .u64 (u.xmin : Int), .int .u64 (u.xmax : Int), .int .i64 u.pg, .int .i64 u.sl, .slice A9 u.data.length c9] 54)) (fun _ _ x => x))
            have HB9 := Lib.hid (alloc_new w7 (.cells #[.int .u64 (u.row : Int), .int .u64 (u.xmin : Int), .int .u64 (u.xmax : Int), .int .i64 u.pg, .int .i64 u.sl, .slice A9 u.data.length c9] 54))
            clear hf9 q7 HGT
            go_upto_region 23 with fail
            generalize w7.alloc (.cells #[.int .u64 (u.row : Int), .int .u64 (u.xmin : Int), .int .u64 (u.xmax : Int), .int .i64 u.pg, .int .i64 u.sl, .slice A9 u.data.length c9] 54) = w8 at HW8 HP8 HB8 HR8 HR9 HB9 ⊢
            generalize w7.heap.size = b9 at HB9 ⊢
            obtain ⟨c0, c1, c2, c3, c4, c5⟩ := box_cells HB8.out
            obtain ⟨k0, k1, k2, k3, k4, k5⟩ := box_cells HB9.out
            have HSM := Lib.hid (rsame_any u u A9 A1 c9 n1 _ _ w8 (own_rd HR9.out) (own_rd HR8.out) HUB.out HUB.out)
            rw [sameT_id] at HSM
            unfold tupV at HSM
            go_wp2_with fail
            refine HSM.out.mono ?_
            rintro e w9 ⟨rfl, hq9⟩
            have HWF := Lib.hid (HW8.out.quietly hq9)
            have HPF := Lib.hid (HP8.out.kept hq9 (fun x => x))
            clear hq9 HSM c0 c1 c2 c3 c4 c5 k0 k1 k2 k3 k4 k5
            go_wp2_with fail
            go_meet
            exact ⟨p8, T8, rfl, HPF.out, HWF.out, fun s hs => HSI.out s hs (by trivial)⟩
          · have de : (er != 0) = true := by simp [he]
            go_wp2_with fail
            go_meet
            exact ⟨-1, T8, rfl, HP6.out, HW6.out, fun s _ => by rw [show T8 = T from HIE.out he]⟩
        · have d0 : ((r3 : Int) == 0) = false := beq_eq_false_iff_ne.2 (by omega)
          by_cases h1 : r3 = 1
          · subst h1
            obtain ⟨c0, c1, c2, c3, c4, c5⟩ := box_cells HB5.out
            have HSTM := Lib.hid (pageT_stamp pb T i u.xmax u.pg u.sl w5 HP5.out)
            go_wp2_with fail
            refine HSTM.out.mono ?_
            rintro e w6 ⟨rfl, ho6, hp6⟩
            obtain ⟨cc, hcc⟩ := HP5.out.blk
            have HW6 := Lib.hid (HW5.out.page hcc HPN.out ho6)
            have HP6 := Lib.hid hp6
            clear ho6 hp6 HSTM
            go_wp2_with fail
            go_meet
            refine ⟨i, _, rfl, HP6.out, HW6.out, fun s hs => ?_⟩
            unfold pStampT
            split
            · rfl
            · rcases hg : tupAt T i with _ | tt
              · rfl
              · exact stays_set hg _ s hs
          · have d1 : ((r3 : Int) == 1) = false := beq_eq_false_iff_ne.2 (by omega)
            rcases hg : tupAt T i with _ | tt
            · have HFR := Lib.hid (pageT_free_none pb T i w5 HP5.out hg)
              clear hg
              go_wp2_with fail
              refine HFR.out.mono ?_
              rintro e w6 ⟨rfl, hq6⟩
              have HW6 := Lib.hid (HW5.out.quietly hq6)
              have HP6 := Lib.hid (HP5.out.kept hq6 (fun x => x))
              clear hq6 HFR
              go_wp2_with fail
              go_meet
              exact ⟨i, T, rfl, HP6.out, HW6.out, fun s _ => rfl⟩
            · have HFR := Lib.hid (pageT_free_some pb tt T i w5 HP5.out hg)
              have HGG := Lib.hid hg
              clear hg
              go_wp2_with fail
              refine HFR.out.mono ?_
              rintro e w6 ⟨rfl, ho6, hp6⟩
              obtain ⟨cc, hcc⟩ := HP5.out.blk
              have HW6 := Lib.hid (HW5.out.page hcc HPN.out ho6)
              have HP6 := Lib.hid hp6
              clear ho6 hp6 HFR
              go_wp2_with fail
              go_meet
              exact ⟨i, _, rfl, HP6.out, HW6.out, fun s hs => by rw [tupAt_trim]; exact stays_set HGG.out _ s hs⟩
      case rest =>
        obtain ⟨z, T', rfl, hp6, hw6, hst⟩ := hcut
        have HP6 := Lib.hid hp6
        have HW6 := Lib.hid hw6
        have HST := Lib.hid hst
        clear hp6 hw6 hst HW5 HP5 HO5 HB5 HR5 o0 o1
        go_wp2_with fail
        go_loopw [90, 17, 18, 19] (fun c _ _ _ wr => ∃ q : Nat, q ≤ k ∧ c = .int .i64 (q : Int) ∧ PageT wr pb T' ∧ WasW w wr v' bv' T rows) (fun c _ _ _ _ => k - (intOf c).toNat)
        case atStart => exact ⟨0, Nat.zero_le _, rfl, HP6.out, HW6.out⟩
        case round =>
          obtain ⟨q, hq, rfl, hp, hw⟩ := hrel
          have HP7 := Lib.hid hp
          have HW7 := Lib.hid hw
          clear hp hw HP6 HW6
          by_cases hlq : q < k
          · rcases hs : tupAt T' (q : Int) with _ | tt
            · have HG := Lib.hid (pageT_get_none pb T' (q : Int) wr HP7.out hs)
              have HHS := Lib.hid hs
              clear hs
              go_wp2_with fail
              refine HG.out.mono ?_
              rintro e w7 ⟨rfl, hq7⟩
              have q8 : Quiet wr (w7.alloc (.cells #[.int .u64 0, .int .u64 0, .int .u64 0, .int .i64 0, .int .i64 0, .slice none 0 0] 54)) := hq7.alloc _
              have HW8 := Lib.hid (HW7.out.quietly q8)
              have HP8 := Lib.hid (HP7.out.kept q8 (fun x => x))
              have HB8 := Lib.hid (alloc_new w7 (.cells #[.int .u64 0, .int .u64 0, .int .u64 0, .int .i64 0, .int .i64 0, .slice none 0 0] 54))
              clear hq7 q8 HG HP7 HW7
              go_upto_region 31 with fail
              generalize w7.alloc (.cells #[.int .u64 0, .int .u64 0, .int .u64 0, .int .i64 0, .int .i64 0, .slice none 0 0] 54) = w8 at HW8 HP8 HB8 ⊢
              generalize w7.heap.size = b8 at HB8 ⊢
              obtain ⟨g, cp, hv⟩ : ∃ g cp, v' = .slice (some ⟨g, 0, none⟩) k cp := by
                rcases owns_cases HW8.out.own with ⟨_, e⟩ | ⟨g, cp, e, _, _⟩
                · rw [HM.out] at e; omega
                · exact ⟨g, cp, by rw [e, HM.out]⟩
              subst hv
              obtain ⟨gb, cpb, hv⟩ : ∃ g cp, bv' = .slice (some ⟨g, 0, none⟩) k cp := by
                rcases owns_cases HW8.out.bown with ⟨_, e⟩ | ⟨g, cp, e, _, _⟩
                · rw [HM.out] at e; omega
                · exact ⟨g, cp, by rw [e, HM.out]⟩
              subst hv
              have d0 : (0 : Int) ≤ (q : Int) := by omega
              have d1 : (q : Int) < (k : Int) := by omega
              by_cases hz : (q : Int) = z
              · subst hz
                have e0 : ((q : Int) != (q : Int)) = false := by simp
                refine wp_region_held_drew (S := (fun _ => True)) (by kernel_rfl) (trivial) (fun hHeld => ?_)
                simp only [List.size_toArray, List.length_cons, List.length_nil, Nat.reduceAdd]
                (refine wpAnyH_take (i := 0) (oi := ?_) (v := ?_) ?_ (by kernel_rfl) (by decide +kernel) (by decide +kernel) ?_ (Or.inl ⟨?_, ?_⟩) (by first | assumption | exact trivial) ?_; rotate_left 2; (focus (simp only [List.getElem?_toArray, List.getElem?_cons_zero, List.getElem?_cons_succ] <;> rfl)); (focus (exact fun _ _ _ h => h)); (focus rfl); (focus (intro w hSw; (try dsimp only at hSw); go_simp; (try with_reducible rfl); done)); (try simp only [Act.put, List.setIfInBounds_toArray, List.set_cons_zero, List.set_cons_succ]))
                (refine wpAnyH_take (i := 1) (oi := ?_) (v := ?_) ?_ (by kernel_rfl) (by decide +kernel) (by decide +kernel) ?_ (Or.inl ⟨?_, ?_⟩) (by first | assumption | exact trivial) ?_; rotate_left 2; (focus (simp only [List.getElem?_toArray, List.getElem?_cons_zero, List.getElem?_cons_succ] <;> rfl)); (focus (exact fun _ _ _ h => h)); (focus rfl); (focus (intro w hSw; (try dsimp only at hSw); go_simp; (try with_reducible rfl); done)); (try simp only [Act.put, List.setIfInBounds_toArray, List.set_cons_zero, List.set_cons_succ]))
                (refine wpAnyH_take (i := 2) (oi := ?_) (v := ?_) ?_ (by kernel_rfl) (by decide +kernel) (by decide +kernel) ?_ (Or.inl ⟨?_, ?_⟩) (by first | assumption | exact trivial) ?_; rotate_left 2; (focus (simp only [List.getElem?_toArray, List.getElem?_cons_zero, List.getElem?_cons_succ] <;> rfl)); (focus (exact fun _ _ _ h => h)); (focus rfl); (focus (intro w hSw; (try dsimp only at hSw); go_simp; (try with_reducible rfl); done)); (try simp only [Act.put, List.setIfInBounds_toArray, List.set_cons_zero, List.set_cons_succ]))
                (refine wpAnyH_take (i := 3) (oi := ?_) (v := ?_) ?_ (by kernel_rfl) (by decide +kernel) (by decide +kernel) ?_ (Or.inl ⟨?_, ?_⟩) (by first | assumption | exact trivial) ?_; rotate_left 2; (focus (simp only [List.getElem?_toArray, List.getElem?_cons_zero, List.getElem?_cons_succ] <;> rfl)); (focus (exact fun _ _ _ h => h)); (focus rfl); (focus (intro w hSw; (try dsimp only at hSw); go_simp; (try with_reducible rfl); done)); (try simp only [Act.put, List.setIfInBounds_toArray, List.set_cons_zero, List.set_cons_succ]))
                (refine wpAnyH_take (i := 4) (oi := ?_) (v := undef) ?_ (by kernel_rfl) (by decide +kernel) (by decide +kernel) ?_ (Or.inr ⟨?_, rfl⟩) (by first | assumption | exact trivial) ?_; rotate_left 1; (focus (simp only [List.getElem?_toArray, List.getElem?_cons_zero, List.getElem?_cons_succ] <;> rfl)); (focus (exact fun _ _ _ h => h)); (focus rfl); (try simp only [Act.put, List.setIfInBounds_toArray, List.set_cons_zero, List.set_cons_succ]))
                (refine wpAnyH_take (i := 5) (oi := ?_) (v := undef) ?_ (by kernel_rfl) (by decide +kernel) (by decide +kernel) ?_ (Or.inr ⟨?_, rfl⟩) (by first | assumption | exact trivial) ?_; rotate_left 1; (focus (simp only [List.getElem?_toArray, List.getElem?_cons_zero, List.getElem?_cons_succ] <;> rfl)); (focus (exact fun _ _ _ h => h)); (focus rfl); (try simp only [Act.put, List.setIfInBounds_toArray, List.set_cons_zero, List.set_cons_succ]))
                (refine wpAnyH_take (i := 6) (oi := ?_) (v := undef) ?_ (by kernel_rfl) (by decide +kernel) (by decide +kernel) ?_ (Or.inr ⟨?_, rfl⟩) (by first | assumption | exact trivial) ?_; rotate_left 1; (focus (simp only [List.getElem?_toArray, List.getElem?_cons_zero, List.getElem?_cons_succ] <;> rfl)); (focus (exact fun _ _ _ h => h)); (focus rfl); (try simp only [Act.put, List.setIfInBounds_toArray, List.set_cons_zero, List.set_cons_succ]))
                (refine wpAnyH_take (i := 7) (oi := ?_) (v := undef) ?_ (by kernel_rfl) (by decide +kernel) (by decide +kernel) ?_ (Or.inr ⟨?_, rfl⟩) (by first | assumption | exact trivial) ?_; rotate_left 1; (focus (simp only [List.getElem?_toArray, List.getElem?_cons_zero, List.getElem?_cons_succ] <;> rfl)); (focus (exact fun _ _ _ h => h)); (focus rfl); (try simp only [Act.put, List.setIfInBounds_toArray, List.set_cons_zero, List.set_cons_succ]))
                (refine wpAnyH_take (i := 8) (oi := ?_) (v := undef) ?_ (by kernel_rfl) (by decide +kernel) (by decide +kernel) ?_ (Or.inr ⟨?_, rfl⟩) (by first | assumption | exact trivial) ?_; rotate_left 1; (focus (simp only [List.getElem?_toArray, List.getElem?_cons_zero, List.getElem?_cons_succ] <;> rfl)); (focus (exact fun _ _ _ h => h)); (focus rfl); (try simp only [Act.put, List.setIfInBounds_toArray, List.set_cons_zero, List.set_cons_succ]))
                (refine wpAnyH_take (i := 9) (oi := ?_) (v := undef) ?_ (by kernel_rfl) (by decide +kernel) (by decide +kernel) ?_ (Or.inr ⟨?_, rfl⟩) (by first | assumption | exact trivial) ?_; rotate_left 1; (focus (simp only [List.getElem?_toArray, List.getElem?_cons_zero, List.getElem?_cons_succ] <;> rfl)); (focus (exact fun _ _ _ h => h)); (focus rfl); (try simp only [Act.put, List.setIfInBounds_toArray, List.set_cons_zero, List.set_cons_succ]))
                (refine wpAnyH_take (i := 10) (oi := ?_) (v := undef) ?_ (by kernel_rfl) (by decide +kernel) (by decide +kernel) ?_ (Or.inr ⟨?_, rfl⟩) (by first | assumption | exact trivial) ?_; rotate_left 1; (focus (simp only [List.getElem?_toArray, List.getElem?_cons_zero, List.getElem?_cons_succ] <;> rfl)); (focus (exact fun _ _ _ h => h)); (focus rfl); (try simp only [Act.put, List.setIfInBounds_toArray, List.set_cons_zero, List.set_cons_succ]))
                (refine wpAnyH_take (i := 11) (oi := ?_) (v := undef) ?_ (by kernel_rfl) (by decide +kernel) (by decide +kernel) ?_ (Or.inr ⟨?_, rfl⟩) (by first | assumption | exact trivial) ?_; rotate_left 1; (focus (simp only [List.getElem?_toArray, List.getElem?_cons_zero, List.getElem?_cons_succ] <;> rfl)); (focus (exact fun _ _ _ h => h)); (focus rfl); (try simp only [Act.put, List.setIfInBounds_toArray, List.set_cons_zero, List.set_cons_succ]))
                (refine wpAnyH_take (i := 12) (oi := ?_) (v := undef) ?_ (by kernel_rfl) (by decide +kernel) (by decide +kernel) ?_ (Or.inr ⟨?_, rfl⟩) (by first | assumption | exact trivial) ?_; rotate_left 1; (focus (simp only [List.getElem?_toArray, List.getElem?_cons_zero, List.getElem?_cons_succ] <;> rfl)); (focus (exact fun _ _ _ h => h)); (focus rfl); (try simp only [Act.put, List.setIfInBounds_toArray, List.set_cons_zero, List.set_cons_succ]))
                (refine wpAnyH_take (i := 13) (oi := ?_) (v := undef) ?_ (by kernel_rfl) (by decide +kernel) (by decide +kernel) ?_ (Or.inr ⟨?_, rfl⟩) (by first | assumption | exact trivial) ?_; rotate_left 1; (focus (simp only [List.getElem?_toArray, List.getElem?_cons_zero, List.getElem?_cons_succ] <;> rfl)); (focus (exact fun _ _ _ h => h)); (focus rfl); (try simp only [Act.put, List.setIfInBounds_toArray, List.set_cons_zero, List.set_cons_succ]))
                (refine wpAnyH_take (i := 14) (oi := ?_) (v := undef) ?_ (by kernel_rfl) (by decide +kernel) (by decide +kernel) ?_ (Or.inr ⟨?_, rfl⟩) (by first | assumption | exact trivial) ?_; rotate_left 1; (focus (simp only [List.getElem?_toArray, List.getElem?_cons_zero, List.getElem?_cons_succ] <;> rfl)); (focus (exact fun _ _ _ h => h)); (focus rfl); (try simp only [Act.put, List.setIfInBounds_toArray, List.set_cons_zero, List.set_cons_succ]))
                (refine wpAnyH_take (i := 15) (oi := ?_) (v := undef) ?_ (by kernel_rfl) (by decide +kernel) (by decide +kernel) ?_ (Or.inr ⟨?_, rfl⟩) (by first | assumption | exact trivial) ?_; rotate_left 1; (focus (simp only [List.getElem?_toArray, List.getElem?_cons_zero, List.getElem?_cons_succ] <;> rfl)); (focus (exact fun _ _ _ h => h)); (focus rfl); (try simp only [Act.put, List.setIfInBounds_toArray, List.set_cons_zero, List.set_cons_succ]))
                (refine wpAnyH_take (i := 16) (oi := ?_) (v := undef) ?_ (by kernel_rfl) (by decide +kernel) (by decide +kernel) ?_ (Or.inr ⟨?_, rfl⟩) (by first | assumption | exact trivial) ?_; rotate_left 1; (focus (simp only [List.getElem?_toArray, List.getElem?_cons_zero, List.getElem?_cons_succ] <;> rfl)); (focus (exact fun _ _ _ h => h)); (focus rfl); (try simp only [Act.put, List.setIfInBounds_toArray, List.set_cons_zero, List.set_cons_succ]))
                (refine wpAnyH_take (i := 17) (oi := ?_) (v := undef) ?_ (by kernel_rfl) (by decide +kernel) (by decide +kernel) ?_ (Or.inr ⟨?_, rfl⟩) (by first | assumption | exact trivial) ?_; rotate_left 1; (focus (simp only [List.getElem?_toArray, List.getElem?_cons_zero, List.getElem?_cons_succ] <;> rfl)); (focus (exact fun _ _ _ h => h)); (focus rfl); (try simp only [Act.put, List.setIfInBounds_toArray, List.set_cons_zero, List.set_cons_succ]))
                (refine wpAnyH_take (i := 18) (oi := ?_) (v := undef) ?_ (by kernel_rfl) (by decide +kernel) (by decide +kernel) ?_ (Or.inr ⟨?_, rfl⟩) (by first | assumption | exact trivial) ?_; rotate_left 1; (focus (simp only [List.getElem?_toArray, List.getElem?_cons_zero, List.getElem?_cons_succ] <;> rfl)); (focus (exact fun _ _ _ h => h)); (focus rfl); (try simp only [Act.put, List.setIfInBounds_toArray, List.set_cons_zero, List.set_cons_succ]))
                (refine wpAnyH_take (i := 19) (oi := ?_) (v := ?_) ?_ (by kernel_rfl) (by decide +kernel) (by decide +kernel) ?_ (Or.inl ⟨?_, ?_⟩) (by first | assumption | exact trivial) ?_; rotate_left 2; (focus (simp only [List.getElem?_toArray, List.getElem?_cons_zero, List.getElem?_cons_succ] <;> rfl)); (focus (exact fun _ _ _ h => h)); (focus rfl); (focus (intro w hSw; (try dsimp only at hSw); go_simp; (try with_reducible rfl); done)); (try simp only [Act.put, List.setIfInBounds_toArray, List.set_cons_zero, List.set_cons_succ]))
                refine wpAnyH_done (by kernel_rfl) ?_ _
                clear hHeld
                go_wp2
                go_roundw
                case rel => exact ⟨q + 1, by omega, by go_num, HP8.out.kept (Only.refl (fun _ => False) w8).drew (fun x => x), HW8.out.quietly (Only.refl (fun _ => False) w8).drew⟩
                case measure => simp [intOf]; omega
              · have hTq := HST.out (q : Int) hz
                rw [HHS.out] at hTq
                have hwc := was_none HW8.out (by rw [HM.out]; exact hlq) hTq.symm
                have HS : Hid (∀ W' : World, Quiet w8 W' → (fun w' => w'.cell? ⟨b8, 0, none⟩ = some (.int .u64 0) ∧ w'.cell? ⟨b8, 1, none⟩ = some (.int .u64 0) ∧ w'.cell? ⟨b8, 2, none⟩ = some (.int .u64 0) ∧ w'.cell? ⟨b8, 3, none⟩ = some (.int .i64 0) ∧ w'.cell? ⟨b8, 4, none⟩ = some (.int .i64 0) ∧ w'.cell? ⟨b8, 5, none⟩ = some (.slice none 0 0) ∧ w'.cell? ⟨g, q * 6, none⟩ = some (.int .u64 0) ∧ w'.cell? ⟨g, q * 6 + 1, none⟩ = some (.int .u64 0) ∧ w'.cell? ⟨g, q * 6 + 2, none⟩ = some (.int .u64 0) ∧ w'.cell? ⟨g, q * 6 + 3, none⟩ = some (.int .i64 0) ∧ w'.cell? ⟨g, q * 6 + 4, none⟩ = some (.int .i64 0) ∧ w'.cell? ⟨g, q * 6 + 5, none⟩ = some (.slice none 0 0) ∧ w'.cell? ⟨gb, q, none⟩ = some (.bool false)) W') := by
                  intro W' hq
                  obtain ⟨c0, c1, c2', c3, c4, c5⟩ := zero_cells (hq.get HB8.out (fun x => x))
                  obtain ⟨a0, a1, a2, a3, a4, a5, a6⟩ := hwc
                  exact ⟨c0, c1, c2', c3, c4, c5, hq.cell a0 (fun x => x), hq.cell a1 (fun x => x), hq.cell a2 (fun x => x), hq.cell a3 (fun x => x), hq.cell a4 (fun x => x), hq.cell a5 (fun x => x), hq.cell a6 (fun x => x)⟩
                clear hwc hTq HHS
                have e0 : ((q : Int) != z) = true := by simp [hz]
                have HSM : Hid (∀ W' : World, Quiet w8 W' → Calls Try.prog 38 #[.agg #[.int .u64 0, .int .u64 0, .int .u64 0, .int .i64 0, .int .i64 0, .slice none 0 0], .agg #[.int .u64 0, .int .u64 0, .int .u64 0, .int .i64 0, .int .i64 0, .slice none 0 0]] W' fun e w' => e = .returned (.bool true) ∧ Quiet W' w') := fun W' hq => by
                  have := rsame_any ⟨0, 0, 0, 0, 0, []⟩ ⟨0, 0, 0, 0, 0, []⟩ none none 0 0 (fun _ => True) (fun _ => True) W' (Rd.nil _ _ _ _) (Rd.nil _ _ _ _) (fun x hx => by cases hx) (fun x hx => by cases hx)
                  rw [sameT_id] at this
                  exact this
                refine wp_region_held_drew (S := (fun w' => w'.cell? ⟨b8, 0, none⟩ = some (.int .u64 0) ∧ w'.cell? ⟨b8, 1, none⟩ = some (.int .u64 0) ∧ w'.cell? ⟨b8, 2, none⟩ = some (.int .u64 0) ∧ w'.cell? ⟨b8, 3, none⟩ = some (.int .i64 0) ∧ w'.cell? ⟨b8, 4, none⟩ = some (.int .i64 0) ∧ w'.cell? ⟨b8, 5, none⟩ = some (.slice none 0 0) ∧ w'.cell? ⟨g, q * 6, none⟩ = some (.int .u64 0) ∧ w'.cell? ⟨g, q * 6 + 1, none⟩ = some (.int .u64 0) ∧ w'.cell? ⟨g, q * 6 + 2, none⟩ = some (.int .u64 0) ∧ w'.cell? ⟨g, q * 6 + 3, none⟩ = some (.int .i64 0) ∧ w'.cell? ⟨g, q * 6 + 4, none⟩ = some (.int .i64 0) ∧ w'.cell? ⟨g, q * 6 + 5, none⟩ = some (.slice none 0 0) ∧ w'.cell? ⟨gb, q, none⟩ = some (.bool false))) (by kernel_rfl) (HS.out _ ((Only.refl (fun _ => False) w8).drew)) (fun hHeld => ?_)
                simp only [List.size_toArray, List.length_cons, List.length_nil, Nat.reduceAdd]
                (refine wpAnyH_take (i := 0) (oi := ?_) (v := ?_) ?_ (by kernel_rfl) (by decide +kernel) (by decide +kernel) ?_ (Or.inl ⟨?_, ?_⟩) (by first | assumption | exact trivial) ?_; rotate_left 2; (focus (simp only [List.getElem?_toArray, List.getElem?_cons_zero, List.getElem?_cons_succ] <;> rfl)); (focus (exact fun _ _ _ h => h)); (focus rfl); (focus (intro w hSw; (try dsimp only at hSw); go_simp; (try with_reducible rfl); done)); (try simp only [Act.put, List.setIfInBounds_toArray, List.set_cons_zero, List.set_cons_succ]))
                (refine wpAnyH_take (i := 1) (oi := ?_) (v := ?_) ?_ (by kernel_rfl) (by decide +kernel) (by decide +kernel) ?_ (Or.inl ⟨?_, ?_⟩) (by first | assumption | exact trivial) ?_; rotate_left 2; (focus (simp only [List.getElem?_toArray, List.getElem?_cons_zero, List.getElem?_cons_succ] <;> rfl)); (focus (exact fun _ _ _ h => h)); (focus rfl); (focus (intro w hSw; (try dsimp only at hSw); go_simp; (try with_reducible rfl); done)); (try simp only [Act.put, List.setIfInBounds_toArray, List.set_cons_zero, List.set_cons_succ]))
                (refine wpAnyH_take (i := 2) (oi := ?_) (v := ?_) ?_ (by kernel_rfl) (by decide +kernel) (by decide +kernel) ?_ (Or.inl ⟨?_, ?_⟩) (by first | assumption | exact trivial) ?_; rotate_left 2; (focus (simp only [List.getElem?_toArray, List.getElem?_cons_zero, List.getElem?_cons_succ] <;> rfl)); (focus (exact fun _ _ _ h => h)); (focus rfl); (focus (intro w hSw; (try dsimp only at hSw); go_simp; (try with_reducible rfl); done)); (try simp only [Act.put, List.setIfInBounds_toArray, List.set_cons_zero, List.set_cons_succ]))
                (refine wpAnyH_take (i := 3) (oi := ?_) (v := ?_) ?_ (by kernel_rfl) (by decide +kernel) (by decide +kernel) ?_ (Or.inl ⟨?_, ?_⟩) (by first | assumption | exact trivial) ?_; rotate_left 2; (focus (simp only [List.getElem?_toArray, List.getElem?_cons_zero, List.getElem?_cons_succ] <;> rfl)); (focus (exact fun _ _ _ h => h)); (focus rfl); (focus (intro w hSw; (try dsimp only at hSw); go_simp; (try with_reducible rfl); done)); (try simp only [Act.put, List.setIfInBounds_toArray, List.set_cons_zero, List.set_cons_succ]))
                (refine wpAnyH_take (i := 4) (oi := ?_) (v := ?_) ?_ (by kernel_rfl) (by decide +kernel) (by decide +kernel) ?_ (Or.inl ⟨?_, ?_⟩) (by first | assumption | exact trivial) ?_; rotate_left 2; (focus (simp only [List.getElem?_toArray, List.getElem?_cons_zero, List.getElem?_cons_succ] <;> rfl)); (focus (exact fun _ _ _ h => h)); (focus rfl); (focus (intro w hSw; (try dsimp only at hSw); go_simp; (try with_reducible rfl); done)); (try simp only [Act.put, List.setIfInBounds_toArray, List.set_cons_zero, List.set_cons_succ]))
                (refine wpAnyH_take (i := 5) (oi := ?_) (v := ?_) ?_ (by kernel_rfl) (by decide +kernel) (by decide +kernel) ?_ (Or.inl ⟨?_, ?_⟩) (by first | assumption | exact trivial) ?_; rotate_left 2; (focus (simp only [List.getElem?_toArray, List.getElem?_cons_zero, List.getElem?_cons_succ] <;> rfl)); (focus (exact fun _ _ _ h => h)); (focus rfl); (focus (intro w hSw; (try dsimp only at hSw); go_simp; (try with_reducible rfl); done)); (try simp only [Act.put, List.setIfInBounds_toArray, List.set_cons_zero, List.set_cons_succ]))
                (refine wpAnyH_take (i := 6) (oi := ?_) (v := ?_) ?_ (by kernel_rfl) (by decide +kernel) (by decide +kernel) ?_ (Or.inl ⟨?_, ?_⟩) (by first | assumption | exact trivial) ?_; rotate_left 2; (focus (simp only [List.getElem?_toArray, List.getElem?_cons_zero, List.getElem?_cons_succ] <;> rfl)); (focus (exact fun _ _ _ h => h)); (focus rfl); (focus (intro w hSw; (try dsimp only at hSw); go_simp; (try with_reducible rfl); done)); (try simp only [Act.put, List.setIfInBounds_toArray, List.set_cons_zero, List.set_cons_succ]))
                (refine wpAnyH_take (i := 7) (oi := ?_) (v := ?_) ?_ (by kernel_rfl) (by decide +kernel) (by decide +kernel) ?_ (Or.inl ⟨?_, ?_⟩) (by first | assumption | exact trivial) ?_; rotate_left 2; (focus (simp only [List.getElem?_toArray, List.getElem?_cons_zero, List.getElem?_cons_succ] <;> rfl)); (focus (exact fun _ _ _ h => h)); (focus rfl); (focus (intro w hSw; (try dsimp only at hSw); go_simp; (try with_reducible rfl); done)); (try simp only [Act.put, List.setIfInBounds_toArray, List.set_cons_zero, List.set_cons_succ]))
                (refine wpAnyH_take (i := 8) (oi := ?_) (v := ?_) ?_ (by kernel_rfl) (by decide +kernel) (by decide +kernel) ?_ (Or.inl ⟨?_, ?_⟩) (by first | assumption | exact trivial) ?_; rotate_left 2; (focus (simp only [List.getElem?_toArray, List.getElem?_cons_zero, List.getElem?_cons_succ] <;> rfl)); (focus (exact fun _ _ _ h => h)); (focus rfl); (focus (intro w hSw; (try dsimp only at hSw); go_simp; (try with_reducible rfl); done)); (try simp only [Act.put, List.setIfInBounds_toArray, List.set_cons_zero, List.set_cons_succ]))
                (refine wpAnyH_take (i := 9) (oi := ?_) (v := ?_) ?_ (by kernel_rfl) (by decide +kernel) (by decide +kernel) ?_ (Or.inl ⟨?_, ?_⟩) (by first | assumption | exact trivial) ?_; rotate_left 2; (focus (simp only [List.getElem?_toArray, List.getElem?_cons_zero, List.getElem?_cons_succ] <;> rfl)); (focus (exact fun _ _ _ h => h)); (focus rfl); (focus (intro w hSw; (try dsimp only at hSw); go_simp; (try with_reducible rfl); done)); (try simp only [Act.put, List.setIfInBounds_toArray, List.set_cons_zero, List.set_cons_succ]))
                (refine wpAnyH_take (i := 10) (oi := ?_) (v := ?_) ?_ (by kernel_rfl) (by decide +kernel) (by decide +kernel) ?_ (Or.inl ⟨?_, ?_⟩) (by first | assumption | exact trivial) ?_; rotate_left 2; (focus (simp only [List.getElem?_toArray, List.getElem?_cons_zero, List.getElem?_cons_succ] <;> rfl)); (focus (exact fun _ _ _ h => h)); (focus rfl); (focus (intro w hSw; (try dsimp only at hSw); go_simp; (try with_reducible rfl); done)); (try simp only [Act.put, List.setIfInBounds_toArray, List.set_cons_zero, List.set_cons_succ]))
                (refine wpAnyH_take (i := 11) (oi := ?_) (v := ?_) ?_ (by kernel_rfl) (by decide +kernel) (by decide +kernel) ?_ (Or.inl ⟨?_, ?_⟩) (by first | assumption | exact trivial) ?_; rotate_left 2; (focus (simp only [List.getElem?_toArray, List.getElem?_cons_zero, List.getElem?_cons_succ] <;> rfl)); (focus (exact fun _ _ _ h => h)); (focus rfl); (focus (intro w hSw; (try dsimp only at hSw); go_simp; (try with_reducible rfl); done)); (try simp only [Act.put, List.setIfInBounds_toArray, List.set_cons_zero, List.set_cons_succ]))
                (refine wpAnyH_take (i := 12) (oi := ?_) (v := ?_) ?_ (by kernel_rfl) (by decide +kernel) (by decide +kernel) ?_ (Or.inl ⟨?_, ?_⟩) (by first | assumption | exact trivial) ?_; rotate_left 2; (focus (simp only [List.getElem?_toArray, List.getElem?_cons_zero, List.getElem?_cons_succ] <;> rfl)); (focus (exact fun _ _ _ h => h)); (focus rfl); (focus (intro w hSw; (try dsimp only at hSw); go_simp; (try with_reducible rfl); done)); (try simp only [Act.put, List.setIfInBounds_toArray, List.set_cons_zero, List.set_cons_succ]))
                (refine wpAnyH_take (i := 13) (oi := ?_) (v := ?_) ?_ (by kernel_rfl) (by decide +kernel) (by decide +kernel) ?_ (Or.inl ⟨?_, ?_⟩) (by first | assumption | exact trivial) ?_; rotate_left 2; (focus (simp only [List.getElem?_toArray, List.getElem?_cons_zero, List.getElem?_cons_succ] <;> rfl)); (focus (exact fun _ _ _ h => h)); (focus rfl); (focus (intro w hSw; (try dsimp only at hSw); go_simp; (try with_reducible rfl); done)); (try simp only [Act.put, List.setIfInBounds_toArray, List.set_cons_zero, List.set_cons_succ]))
                (refine wpAnyH_take (i := 14) (oi := ?_) (v := ?_) ?_ (by kernel_rfl) (by decide +kernel) (by decide +kernel) ?_ (Or.inl ⟨?_, ?_⟩) (by first | assumption | exact trivial) ?_; rotate_left 2; (focus (simp only [List.getElem?_toArray, List.getElem?_cons_zero, List.getElem?_cons_succ] <;> rfl)); (focus (exact fun _ _ _ h => h)); (focus rfl); (focus (intro w hSw; (try dsimp only at hSw); go_simp; (try with_reducible rfl); done)); (try simp only [Act.put, List.setIfInBounds_toArray, List.set_cons_zero, List.set_cons_succ]))
                (refine wpAnyH_take (i := 15) (oi := ?_) (v := ?_) ?_ (by kernel_rfl) (by decide +kernel) (by decide +kernel) ?_ (Or.inl ⟨?_, ?_⟩) (by first | assumption | exact trivial) ?_; rotate_left 2; (focus (simp only [List.getElem?_toArray, List.getElem?_cons_zero, List.getElem?_cons_succ] <;> rfl)); (focus (exact fun _ _ _ h => h)); (focus rfl); (focus (intro w hSw; (try dsimp only at hSw); go_simp; (try with_reducible rfl); done)); (try simp only [Act.put, List.setIfInBounds_toArray, List.set_cons_zero, List.set_cons_succ]))
                refine wpAnyH_ready (rs := [16]) (by kernel_rfl) (by simp) ?_
                refine AllReadyH.cons (o := ?_) ?_ ?_ AllReadyH.nil
                rotate_left 1
                (focus (simp only [List.getElem?_toArray, List.getElem?_cons_zero, List.getElem?_cons_succ] <;> rfl))
                intro K hK
                go_simp
                go_at_call 38
                refine (HSM.out _ ((Only.refl (fun _ => False) w8).drew)).mono ?_
                rintro e w9 ⟨rfl, hq9⟩
                have HQ9 := Lib.hid ((Only.refl (fun _ => False) w8).drew.trans hq9)
                clear hq9
                dsimp only
                refine hK.out _ _ ?_ (fun hHeld => ?_)
                · exact HS.out _ HQ9.out
                clear hK K
                (try simp only [Act.put, List.setIfInBounds_toArray, List.set_cons_zero, List.set_cons_succ])
                (refine wpAnyH_take (i := 17) (oi := ?_) (v := ?_) ?_ (by kernel_rfl) (by decide +kernel) (by decide +kernel) ?_ (Or.inl ⟨?_, ?_⟩) (by first | assumption | exact trivial) ?_; rotate_left 2; (focus (simp only [List.getElem?_toArray, List.getElem?_cons_zero, List.getElem?_cons_succ] <;> rfl)); (focus (exact fun _ _ _ h => h)); (focus rfl); (focus (intro w hSw; (try dsimp only at hSw); go_simp; (try with_reducible rfl); done)); (try simp only [Act.put, List.setIfInBounds_toArray, List.set_cons_zero, List.set_cons_succ]))
                (refine wpAnyH_take (i := 18) (oi := ?_) (v := ?_) ?_ (by kernel_rfl) (by decide +kernel) (by decide +kernel) ?_ (Or.inl ⟨?_, ?_⟩) (by first | assumption | exact trivial) ?_; rotate_left 2; (focus (simp only [List.getElem?_toArray, List.getElem?_cons_zero, List.getElem?_cons_succ] <;> rfl)); (focus (exact fun _ _ _ h => h)); (focus rfl); (focus (intro w hSw; (try dsimp only at hSw); go_simp; (try with_reducible rfl); done)); (try simp only [Act.put, List.setIfInBounds_toArray, List.set_cons_zero, List.set_cons_succ]))
                (refine wpAnyH_take (i := 19) (oi := ?_) (v := ?_) ?_ (by kernel_rfl) (by decide +kernel) (by decide +kernel) ?_ (Or.inl ⟨?_, ?_⟩) (by first | assumption | exact trivial) ?_; rotate_left 2; (focus (simp only [List.getElem?_toArray, List.getElem?_cons_zero, List.getElem?_cons_succ] <;> rfl)); (focus (exact fun _ _ _ h => h)); (focus rfl); (focus (intro w hSw; (try dsimp only at hSw); go_simp; (try with_reducible rfl); done)); (try simp only [Act.put, List.setIfInBounds_toArray, List.set_cons_zero, List.set_cons_succ]))
                refine wpAnyH_done (by kernel_rfl) ?_ _
                clear hHeld
                go_wp2
                go_roundw
                case rel => exact ⟨q + 1, by omega, by go_num, HP8.out.kept HQ9.out (fun x => x), HW8.out.quietly HQ9.out⟩
                case measure => simp [intOf]; omega
            · have HTT := Lib.hid (HP7.out.okAt hs)
              have HG := Lib.hid (pageT_get_some pb tt T' (q : Int) wr HP7.out hs)
              have HHS := Lib.hid hs
              clear hs
              go_wp2_with fail
              refine HG.out.mono ?_
              rintro e w7 ⟨A2, c2, rfl, hf7⟩
              unfold tupV
              have hq7 := hf7.quiet
              have HR7 := Lib.hid (own_rd (owns_kept hf7.own ((Only.refl (fun _ => False) w7).alloc (.cells #[.int .u64 (tt.row : Int), .int .u64 (tt.xmin : Int), .int .u64 (tt.xmax : Int), .int .i64 tt.pg, .int .i64 tt.sl, .slice A2 tt.data.length c2] 54)) (fun _ _ x => x)))
              clear hf7
              have q8 : Quiet wr (w7.alloc (.cells #[.int .u64 (tt.row : Int), .int .u64 (tt.xmin : Int), .int .u64 (tt.xmax : Int), .int .i64 tt.pg, .int .i64 tt.sl, .slice A2 tt.data.length c2] 54)) := hq7.alloc _
              have HW8 := Lib.hid (HW7.out.quietly q8)
              have HP8 := Lib.hid (HP7.out.kept q8 (fun x => x))
              have HB8 := Lib.hid (alloc_new w7 (.cells #[.int .u64 (tt.row : Int), .int .u64 (tt.xmin : Int), .int .u64 (tt.xmax : Int), .int .i64 tt.pg, .int .i64 tt.sl, .slice A2 tt.data.length c2] 54))
              clear hq7 q8 HG HP7 HW7
              go_upto_region 31 with fail
              generalize w7.alloc (.cells #[.int .u64 (tt.row : Int), .int .u64 (tt.xmin : Int), .int .u64 (tt.xmax : Int), .int .i64 tt.pg, .int .i64 tt.sl, .slice A2 tt.data.length c2] 54) = w8 at HW8 HP8 HB8 HR7 ⊢
              generalize w7.heap.size = b8 at HB8 ⊢
              obtain ⟨g, cp, hv⟩ : ∃ g cp, v' = .slice (some ⟨g, 0, none⟩) k cp := by
                rcases owns_cases HW8.out.own with ⟨_, e⟩ | ⟨g, cp, e, _, _⟩
                · rw [HM.out] at e; omega
                · exact ⟨g, cp, by rw [e, HM.out]⟩
              subst hv
              obtain ⟨gb, cpb, hv⟩ : ∃ g cp, bv' = .slice (some ⟨g, 0, none⟩) k cp := by
                rcases owns_cases HW8.out.bown with ⟨_, e⟩ | ⟨g, cp, e, _, _⟩
                · rw [HM.out] at e; omega
                · exact ⟨g, cp, by rw [e, HM.out]⟩
              subst hv
              have d0 : (0 : Int) ≤ (q : Int) := by omega
              have d1 : (q : Int) < (k : Int) := by omega
              by_cases hz : (q : Int) = z
              · subst hz
                have e0 : ((q : Int) != (q : Int)) = false := by simp
                refine wp_region_held_drew (S := (fun _ => True)) (by kernel_rfl) (trivial) (fun hHeld => ?_)
                simp only [List.size_toArray, List.length_cons, List.length_nil, Nat.reduceAdd]
                (refine wpAnyH_take (i := 0) (oi := ?_) (v := ?_) ?_ (by kernel_rfl) (by decide +kernel) (by decide +kernel) ?_ (Or.inl ⟨?_, ?_⟩) (by first | assumption | exact trivial) ?_; rotate_left 2; (focus (simp only [List.getElem?_toArray, List.getElem?_cons_zero, List.getElem?_cons_succ] <;> rfl)); (focus (exact fun _ _ _ h => h)); (focus rfl); (focus (intro w hSw; (try dsimp only at hSw); go_simp; (try with_reducible rfl); done)); (try simp only [Act.put, List.setIfInBounds_toArray, List.set_cons_zero, List.set_cons_succ]))
                (refine wpAnyH_take (i := 1) (oi := ?_) (v := ?_) ?_ (by kernel_rfl) (by decide +kernel) (by decide +kernel) ?_ (Or.inl ⟨?_, ?_⟩) (by first | assumption | exact trivial) ?_; rotate_left 2; (focus (simp only [List.getElem?_toArray, List.getElem?_cons_zero, List.getElem?_cons_succ] <;> rfl)); (focus (exact fun _ _ _ h => h)); (focus rfl); (focus (intro w hSw; (try dsimp only at hSw); go_simp; (try with_reducible rfl); done)); (try simp only [Act.put, List.setIfInBounds_toArray, List.set_cons_zero, List.set_cons_succ]))
                (refine wpAnyH_take (i := 2) (oi := ?_) (v := ?_) ?_ (by kernel_rfl) (by decide +kernel) (by decide +kernel) ?_ (Or.inl ⟨?_, ?_⟩) (by first | assumption | exact trivial) ?_; rotate_left 2; (focus (simp only [List.getElem?_toArray, List.getElem?_cons_zero, List.getElem?_cons_succ] <;> rfl)); (focus (exact fun _ _ _ h => h)); (focus rfl); (focus (intro w hSw; (try dsimp only at hSw); go_simp; (try with_reducible rfl); done)); (try simp only [Act.put, List.setIfInBounds_toArray, List.set_cons_zero, List.set_cons_succ]))
                (refine wpAnyH_take (i := 3) (oi := ?_) (v := ?_) ?_ (by kernel_rfl) (by decide +kernel) (by decide +kernel) ?_ (Or.inl ⟨?_, ?_⟩) (by first | assumption | exact trivial) ?_; rotate_left 2; (focus (simp only [List.getElem?_toArray, List.getElem?_cons_zero, List.getElem?_cons_succ] <;> rfl)); (focus (exact fun _ _ _ h => h)); (focus rfl); (focus (intro w hSw; (try dsimp only at hSw); go_simp; (try with_reducible rfl); done)); (try simp only [Act.put, List.setIfInBounds_toArray, List.set_cons_zero, List.set_cons_succ]))
                (refine wpAnyH_take (i := 4) (oi := ?_) (v := undef) ?_ (by kernel_rfl) (by decide +kernel) (by decide +kernel) ?_ (Or.inr ⟨?_, rfl⟩) (by first | assumption | exact trivial) ?_; rotate_left 1; (focus (simp only [List.getElem?_toArray, List.getElem?_cons_zero, List.getElem?_cons_succ] <;> rfl)); (focus (exact fun _ _ _ h => h)); (focus rfl); (try simp only [Act.put, List.setIfInBounds_toArray, List.set_cons_zero, List.set_cons_succ]))
                (refine wpAnyH_take (i := 5) (oi := ?_) (v := undef) ?_ (by kernel_rfl) (by decide +kernel) (by decide +kernel) ?_ (Or.inr ⟨?_, rfl⟩) (by first | assumption | exact trivial) ?_; rotate_left 1; (focus (simp only [List.getElem?_toArray, List.getElem?_cons_zero, List.getElem?_cons_succ] <;> rfl)); (focus (exact fun _ _ _ h => h)); (focus rfl); (try simp only [Act.put, List.setIfInBounds_toArray, List.set_cons_zero, List.set_cons_succ]))
                (refine wpAnyH_take (i := 6) (oi := ?_) (v := undef) ?_ (by kernel_rfl) (by decide +kernel) (by decide +kernel) ?_ (Or.inr ⟨?_, rfl⟩) (by first | assumption | exact trivial) ?_; rotate_left 1; (focus (simp only [List.getElem?_toArray, List.getElem?_cons_zero, List.getElem?_cons_succ] <;> rfl)); (focus (exact fun _ _ _ h => h)); (focus rfl); (try simp only [Act.put, List.setIfInBounds_toArray, List.set_cons_zero, List.set_cons_succ]))
                (refine wpAnyH_take (i := 7) (oi := ?_) (v := undef) ?_ (by kernel_rfl) (by decide +kernel) (by decide +kernel) ?_ (Or.inr ⟨?_, rfl⟩) (by first | assumption | exact trivial) ?_; rotate_left 1; (focus (simp only [List.getElem?_toArray, List.getElem?_cons_zero, List.getElem?_cons_succ] <;> rfl)); (focus (exact fun _ _ _ h => h)); (focus rfl); (try simp only [Act.put, List.setIfInBounds_toArray, List.set_cons_zero, List.set_cons_succ]))
                (refine wpAnyH_take (i := 8) (oi := ?_) (v := undef) ?_ (by kernel_rfl) (by decide +kernel) (by decide +kernel) ?_ (Or.inr ⟨?_, rfl⟩) (by first | assumption | exact trivial) ?_; rotate_left 1; (focus (simp only [List.getElem?_toArray, List.getElem?_cons_zero, List.getElem?_cons_succ] <;> rfl)); (focus (exact fun _ _ _ h => h)); (focus rfl); (try simp only [Act.put, List.setIfInBounds_toArray, List.set_cons_zero, List.set_cons_succ]))
                (refine wpAnyH_take (i := 9) (oi := ?_) (v := undef) ?_ (by kernel_rfl) (by decide +kernel) (by decide +kernel) ?_ (Or.inr ⟨?_, rfl⟩) (by first | assumption | exact trivial) ?_; rotate_left 1; (focus (simp only [List.getElem?_toArray, List.getElem?_cons_zero, List.getElem?_cons_succ] <;> rfl)); (focus (exact fun _ _ _ h => h)); (focus rfl); (try simp only [Act.put, List.setIfInBounds_toArray, List.set_cons_zero, List.set_cons_succ]))
                (refine wpAnyH_take (i := 10) (oi := ?_) (v := undef) ?_ (by kernel_rfl) (by decide +kernel) (by decide +kernel) ?_ (Or.inr ⟨?_, rfl⟩) (by first | assumption | exact trivial) ?_; rotate_left 1; (focus (simp only [List.getElem?_toArray, List.getElem?_cons_zero, List.getElem?_cons_succ] <;> rfl)); (focus (exact fun _ _ _ h => h)); (focus rfl); (try simp only [Act.put, List.setIfInBounds_toArray, List.set_cons_zero, List.set_cons_succ]))
                (refine wpAnyH_take (i := 11) (oi := ?_) (v := undef) ?_ (by kernel_rfl) (by decide +kernel) (by decide +kernel) ?_ (Or.inr ⟨?_, rfl⟩) (by first | assumption | exact trivial) ?_; rotate_left 1; (focus (simp only [List.getElem?_toArray, List.getElem?_cons_zero, List.getElem?_cons_succ] <;> rfl)); (focus (exact fun _ _ _ h => h)); (focus rfl); (try simp only [Act.put, List.setIfInBounds_toArray, List.set_cons_zero, List.set_cons_succ]))
                (refine wpAnyH_take (i := 12) (oi := ?_) (v := undef) ?_ (by kernel_rfl) (by decide +kernel) (by decide +kernel) ?_ (Or.inr ⟨?_, rfl⟩) (by first | assumption | exact trivial) ?_; rotate_left 1; (focus (simp only [List.getElem?_toArray, List.getElem?_cons_zero, List.getElem?_cons_succ] <;> rfl)); (focus (exact fun _ _ _ h => h)); (focus rfl); (try simp only [Act.put, List.setIfInBounds_toArray, List.set_cons_zero, List.set_cons_succ]))
                (refine wpAnyH_take (i := 13) (oi := ?_) (v := undef) ?_ (by kernel_rfl) (by decide +kernel) (by decide +kernel) ?_ (Or.inr ⟨?_, rfl⟩) (by first | assumption | exact trivial) ?_; rotate_left 1; (focus (simp only [List.getElem?_toArray, List.getElem?_cons_zero, List.getElem?_cons_succ] <;> rfl)); (focus (exact fun _ _ _ h => h)); (focus rfl); (try simp only [Act.put, List.setIfInBounds_toArray, List.set_cons_zero, List.set_cons_succ]))
                (refine wpAnyH_take (i := 14) (oi := ?_) (v := undef) ?_ (by kernel_rfl) (by decide +kernel) (by decide +kernel) ?_ (Or.inr ⟨?_, rfl⟩) (by first | assumption | exact trivial) ?_; rotate_left 1; (focus (simp only [List.getElem?_toArray, List.getElem?_cons_zero, List.getElem?_cons_succ] <;> rfl)); (focus (exact fun _ _ _ h => h)); (focus rfl); (try simp only [Act.put, List.setIfInBounds_toArray, List.set_cons_zero, List.set_cons_succ]))
                (refine wpAnyH_take (i := 15) (oi := ?_) (v := undef) ?_ (by kernel_rfl) (by decide +kernel) (by decide +kernel) ?_ (Or.inr ⟨?_, rfl⟩) (by first | assumption | exact trivial) ?_; rotate_left 1; (focus (simp only [List.getElem?_toArray, List.getElem?_cons_zero, List.getElem?_cons_succ] <;> rfl)); (focus (exact fun _ _ _ h => h)); (focus rfl); (try simp only [Act.put, List.setIfInBounds_toArray, List.set_cons_zero, List.set_cons_succ]))
                (refine wpAnyH_take (i := 16) (oi := ?_) (v := undef) ?_ (by kernel_rfl) (by decide +kernel) (by decide +kernel) ?_ (Or.inr ⟨?_, rfl⟩) (by first | assumption | exact trivial) ?_; rotate_left 1; (focus (simp only [List.getElem?_toArray, List.getElem?_cons_zero, List.getElem?_cons_succ] <;> rfl)); (focus (exact fun _ _ _ h => h)); (focus rfl); (try simp only [Act.put, List.setIfInBounds_toArray, List.set_cons_zero, List.set_cons_succ]))
                (refine wpAnyH_take (i := 17) (oi := ?_) (v := undef) ?_ (by kernel_rfl) (by decide +kernel) (by decide +kernel) ?_ (Or.inr ⟨?_, rfl⟩) (by first | assumption | exact trivial) ?_; rotate_left 1; (focus (simp only [List.getElem?_toArray, List.getElem?_cons_zero, List.getElem?_cons_succ] <;> rfl)); (focus (exact fun _ _ _ h => h)); (focus rfl); (try simp only [Act.put, List.setIfInBounds_toArray, List.set_cons_zero, List.set_cons_succ]))
                (refine wpAnyH_take (i := 18) (oi := ?_) (v := undef) ?_ (by kernel_rfl) (by decide +kernel) (by decide +kernel) ?_ (Or.inr ⟨?_, rfl⟩) (by first | assumption | exact trivial) ?_; rotate_left 1; (focus (simp only [List.getElem?_toArray, List.getElem?_cons_zero, List.getElem?_cons_succ] <;> rfl)); (focus (exact fun _ _ _ h => h)); (focus rfl); (try simp only [Act.put, List.setIfInBounds_toArray, List.set_cons_zero, List.set_cons_succ]))
                (refine wpAnyH_take (i := 19) (oi := ?_) (v := ?_) ?_ (by kernel_rfl) (by decide +kernel) (by decide +kernel) ?_ (Or.inl ⟨?_, ?_⟩) (by first | assumption | exact trivial) ?_; rotate_left 2; (focus (simp only [List.getElem?_toArray, List.getElem?_cons_zero, List.getElem?_cons_succ] <;> rfl)); (focus (exact fun _ _ _ h => h)); (focus rfl); (focus (intro w hSw; (try dsimp only at hSw); go_simp; (try with_reducible rfl); done)); (try simp only [Act.put, List.setIfInBounds_toArray, List.set_cons_zero, List.set_cons_succ]))
                refine wpAnyH_done (by kernel_rfl) ?_ _
                clear hHeld
                go_wp2
                go_roundw
                case rel => exact ⟨q + 1, by omega, by go_num, HP8.out.kept (Only.refl (fun _ => False) w8).drew (fun x => x), HW8.out.quietly (Only.refl (fun _ => False) w8).drew⟩
                case measure => simp [intOf]; omega
              · have hTq := HST.out (q : Int) hz
                rw [HHS.out] at hTq
                obtain ⟨Aw, cw, hwc, hwr⟩ := was_some HW8.out (by rw [HM.out]; exact hlq) hTq.symm
                have HWR := Lib.hid (own_rd hwr)
                clear hwr
                have HS : Hid (∀ W' : World, Quiet w8 W' → (fun w' => w'.cell? ⟨b8, 0, none⟩ = some (.int .u64 (tt.row : Int)) ∧ w'.cell? ⟨b8, 1, none⟩ = some (.int .u64 (tt.xmin : Int)) ∧ w'.cell? ⟨b8, 2, none⟩ = some (.int .u64 (tt.xmax : Int)) ∧ w'.cell? ⟨b8, 3, none⟩ = some (.int .i64 tt.pg) ∧ w'.cell? ⟨b8, 4, none⟩ = some (.int .i64 tt.sl) ∧ w'.cell? ⟨b8, 5, none⟩ = some (.slice A2 tt.data.length c2) ∧ w'.cell? ⟨g, q * 6, none⟩ = some (.int .u64 (tt.row : Int)) ∧ w'.cell? ⟨g, q * 6 + 1, none⟩ = some (.int .u64 (tt.xmin : Int)) ∧ w'.cell? ⟨g, q * 6 + 2, none⟩ = some (.int .u64 (tt.xmax : Int)) ∧ w'.cell? ⟨g, q * 6 + 3, none⟩ = some (.int .i64 tt.pg) ∧ w'.cell? ⟨g, q * 6 + 4, none⟩ = some (.int .i64 tt.sl) ∧ w'.cell? ⟨g, q * 6 + 5, none⟩ = some (.slice Aw tt.data.length cw) ∧ w'.cell? ⟨gb, q, none⟩ = some (.bool true)) W') := by
                  intro W' hq
                  obtain ⟨c0, c1, c2', c3, c4, c5⟩ := box_cells (hq.get HB8.out (fun x => x))
                  obtain ⟨a0, a1, a2, a3, a4, a5, a6⟩ := hwc
                  exact ⟨c0, c1, c2', c3, c4, c5, hq.cell a0 (fun x => x), hq.cell a1 (fun x => x), hq.cell a2 (fun x => x), hq.cell a3 (fun x => x), hq.cell a4 (fun x => x), hq.cell a5 (fun x => x), hq.cell a6 (fun x => x)⟩
                clear hwc hTq HHS
                have e0 : ((q : Int) != z) = true := by simp [hz]
                have HSM : Hid (∀ W' : World, Quiet w8 W' → Calls Try.prog 38 #[.agg #[.int .u64 (tt.row : Int), .int .u64 (tt.xmin : Int), .int .u64 (tt.xmax : Int), .int .i64 tt.pg, .int .i64 tt.sl, .slice A2 tt.data.length c2], .agg #[.int .u64 (tt.row : Int), .int .u64 (tt.xmin : Int), .int .u64 (tt.xmax : Int), .int .i64 tt.pg, .int .i64 tt.sl, .slice Aw tt.data.length cw]] W' fun e w' => e = .returned (.bool true) ∧ Quiet W' w') := fun W' hq => by
                  have := rsame_any tt tt A2 Aw c2 cw _ _ W' (HR7.out.kept hq (fun _ _ x => x)) (HWR.out.kept hq (fun _ _ x => x)) HTT.out.bytes HTT.out.bytes
                  rw [sameT_id] at this
                  exact this
                refine wp_region_held_drew (S := (fun w' => w'.cell? ⟨b8, 0, none⟩ = some (.int .u64 (tt.row : Int)) ∧ w'.cell? ⟨b8, 1, none⟩ = some (.int .u64 (tt.xmin : Int)) ∧ w'.cell? ⟨b8, 2, none⟩ = some (.int .u64 (tt.xmax : Int)) ∧ w'.cell? ⟨b8, 3, none⟩ = some (.int .i64 tt.pg) ∧ w'.cell? ⟨b8, 4, none⟩ = some (.int .i64 tt.sl) ∧ w'.cell? ⟨b8, 5, none⟩ = some (.slice A2 tt.data.length c2) ∧ w'.cell? ⟨g, q * 6, none⟩ = some (.int .u64 (tt.row : Int)) ∧ w'.cell? ⟨g, q * 6 + 1, none⟩ = some (.int .u64 (tt.xmin : Int)) ∧ w'.cell? ⟨g, q * 6 + 2, none⟩ = some (.int .u64 (tt.xmax : Int)) ∧ w'.cell? ⟨g, q * 6 + 3, none⟩ = some (.int .i64 tt.pg) ∧ w'.cell? ⟨g, q * 6 + 4, none⟩ = some (.int .i64 tt.sl) ∧ w'.cell? ⟨g, q * 6 + 5, none⟩ = some (.slice Aw tt.data.length cw) ∧ w'.cell? ⟨gb, q, none⟩ = some (.bool true))) (by kernel_rfl) (HS.out _ ((Only.refl (fun _ => False) w8).drew)) (fun hHeld => ?_)
                simp only [List.size_toArray, List.length_cons, List.length_nil, Nat.reduceAdd]
                (refine wpAnyH_take (i := 0) (oi := ?_) (v := ?_) ?_ (by kernel_rfl) (by decide +kernel) (by decide +kernel) ?_ (Or.inl ⟨?_, ?_⟩) (by first | assumption | exact trivial) ?_; rotate_left 2; (focus (simp only [List.getElem?_toArray, List.getElem?_cons_zero, List.getElem?_cons_succ] <;> rfl)); (focus (exact fun _ _ _ h => h)); (focus rfl); (focus (intro w hSw; (try dsimp only at hSw); go_simp; (try with_reducible rfl); done)); (try simp only [Act.put, List.setIfInBounds_toArray, List.set_cons_zero, List.set_cons_succ]))
                (refine wpAnyH_take (i := 1) (oi := ?_) (v := ?_) ?_ (by kernel_rfl) (by decide +kernel) (by decide +kernel) ?_ (Or.inl ⟨?_, ?_⟩) (by first | assumption | exact trivial) ?_; rotate_left 2; (focus (simp only [List.getElem?_toArray, List.getElem?_cons_zero, List.getElem?_cons_succ] <;> rfl)); (focus (exact fun _ _ _ h => h)); (focus rfl); (focus (intro w hSw; (try dsimp only at hSw); go_simp; (try with_reducible rfl); done)); (try simp only [Act.put, List.setIfInBounds_toArray, List.set_cons_zero, List.set_cons_succ]))
                (refine wpAnyH_take (i := 2) (oi := ?_) (v := ?_) ?_ (by kernel_rfl) (by decide +kernel) (by decide +kernel) ?_ (Or.inl ⟨?_, ?_⟩) (by first | assumption | exact trivial) ?_; rotate_left 2; (focus (simp only [List.getElem?_toArray, List.getElem?_cons_zero, List.getElem?_cons_succ] <;> rfl)); (focus (exact fun _ _ _ h => h)); (focus rfl); (focus (intro w hSw; (try dsimp only at hSw); go_simp; (try with_reducible rfl); done)); (try simp only [Act.put, List.setIfInBounds_toArray, List.set_cons_zero, List.set_cons_succ]))
                (refine wpAnyH_take (i := 3) (oi := ?_) (v := ?_) ?_ (by kernel_rfl) (by decide +kernel) (by decide +kernel) ?_ (Or.inl ⟨?_, ?_⟩) (by first | assumption | exact trivial) ?_; rotate_left 2; (focus (simp only [List.getElem?_toArray, List.getElem?_cons_zero, List.getElem?_cons_succ] <;> rfl)); (focus (exact fun _ _ _ h => h)); (focus rfl); (focus (intro w hSw; (try dsimp only at hSw); go_simp; (try with_reducible rfl); done)); (try simp only [Act.put, List.setIfInBounds_toArray, List.set_cons_zero, List.set_cons_succ]))
                (refine wpAnyH_take (i := 4) (oi := ?_) (v := ?_) ?_ (by kernel_rfl) (by decide +kernel) (by decide +kernel) ?_ (Or.inl ⟨?_, ?_⟩) (by first | assumption | exact trivial) ?_; rotate_left 2; (focus (simp only [List.getElem?_toArray, List.getElem?_cons_zero, List.getElem?_cons_succ] <;> rfl)); (focus (exact fun _ _ _ h => h)); (focus rfl); (focus (intro w hSw; (try dsimp only at hSw); go_simp; (try with_reducible rfl); done)); (try simp only [Act.put, List.setIfInBounds_toArray, List.set_cons_zero, List.set_cons_succ]))
                (refine wpAnyH_take (i := 5) (oi := ?_) (v := ?_) ?_ (by kernel_rfl) (by decide +kernel) (by decide +kernel) ?_ (Or.inl ⟨?_, ?_⟩) (by first | assumption | exact trivial) ?_; rotate_left 2; (focus (simp only [List.getElem?_toArray, List.getElem?_cons_zero, List.getElem?_cons_succ] <;> rfl)); (focus (exact fun _ _ _ h => h)); (focus rfl); (focus (intro w hSw; (try dsimp only at hSw); go_simp; (try with_reducible rfl); done)); (try simp only [Act.put, List.setIfInBounds_toArray, List.set_cons_zero, List.set_cons_succ]))
                (refine wpAnyH_take (i := 6) (oi := ?_) (v := ?_) ?_ (by kernel_rfl) (by decide +kernel) (by decide +kernel) ?_ (Or.inl ⟨?_, ?_⟩) (by first | assumption | exact trivial) ?_; rotate_left 2; (focus (simp only [List.getElem?_toArray, List.getElem?_cons_zero, List.getElem?_cons_succ] <;> rfl)); (focus (exact fun _ _ _ h => h)); (focus rfl); (focus (intro w hSw; (try dsimp only at hSw); go_simp; (try with_reducible rfl); done)); (try simp only [Act.put, List.setIfInBounds_toArray, List.set_cons_zero, List.set_cons_succ]))
                (refine wpAnyH_take (i := 7) (oi := ?_) (v := ?_) ?_ (by kernel_rfl) (by decide +kernel) (by decide +kernel) ?_ (Or.inl ⟨?_, ?_⟩) (by first | assumption | exact trivial) ?_; rotate_left 2; (focus (simp only [List.getElem?_toArray, List.getElem?_cons_zero, List.getElem?_cons_succ] <;> rfl)); (focus (exact fun _ _ _ h => h)); (focus rfl); (focus (intro w hSw; (try dsimp only at hSw); go_simp; (try with_reducible rfl); done)); (try simp only [Act.put, List.setIfInBounds_toArray, List.set_cons_zero, List.set_cons_succ]))
                (refine wpAnyH_take (i := 8) (oi := ?_) (v := ?_) ?_ (by kernel_rfl) (by decide +kernel) (by decide +kernel) ?_ (Or.inl ⟨?_, ?_⟩) (by first | assumption | exact trivial) ?_; rotate_left 2; (focus (simp only [List.getElem?_toArray, List.getElem?_cons_zero, List.getElem?_cons_succ] <;> rfl)); (focus (exact fun _ _ _ h => h)); (focus rfl); (focus (intro w hSw; (try dsimp only at hSw); go_simp; (try with_reducible rfl); done)); (try simp only [Act.put, List.setIfInBounds_toArray, List.set_cons_zero, List.set_cons_succ]))
                (refine wpAnyH_take (i := 9) (oi := ?_) (v := ?_) ?_ (by kernel_rfl) (by decide +kernel) (by decide +kernel) ?_ (Or.inl ⟨?_, ?_⟩) (by first | assumption | exact trivial) ?_; rotate_left 2; (focus (simp only [List.getElem?_toArray, List.getElem?_cons_zero, List.getElem?_cons_succ] <;> rfl)); (focus (exact fun _ _ _ h => h)); (focus rfl); (focus (intro w hSw; (try dsimp only at hSw); go_simp; (try with_reducible rfl); done)); (try simp only [Act.put, List.setIfInBounds_toArray, List.set_cons_zero, List.set_cons_succ]))
                (refine wpAnyH_take (i := 10) (oi := ?_) (v := ?_) ?_ (by kernel_rfl) (by decide +kernel) (by decide +kernel) ?_ (Or.inl ⟨?_, ?_⟩) (by first | assumption | exact trivial) ?_; rotate_left 2; (focus (simp only [List.getElem?_toArray, List.getElem?_cons_zero, List.getElem?_cons_succ] <;> rfl)); (focus (exact fun _ _ _ h => h)); (focus rfl); (focus (intro w hSw; (try dsimp only at hSw); go_simp; (try with_reducible rfl); done)); (try simp only [Act.put, List.setIfInBounds_toArray, List.set_cons_zero, List.set_cons_succ]))
                (refine wpAnyH_take (i := 11) (oi := ?_) (v := ?_) ?_ (by kernel_rfl) (by decide +kernel) (by decide +kernel) ?_ (Or.inl ⟨?_, ?_⟩) (by first | assumption | exact trivial) ?_; rotate_left 2; (focus (simp only [List.getElem?_toArray, List.getElem?_cons_zero, List.getElem?_cons_succ] <;> rfl)); (focus (exact fun _ _ _ h => h)); (focus rfl); (focus (intro w hSw; (try dsimp only at hSw); go_simp; (try with_reducible rfl); done)); (try simp only [Act.put, List.setIfInBounds_toArray, List.set_cons_zero, List.set_cons_succ]))
                (refine wpAnyH_take (i := 12) (oi := ?_) (v := ?_) ?_ (by kernel_rfl) (by decide +kernel) (by decide +kernel) ?_ (Or.inl ⟨?_, ?_⟩) (by first | assumption | exact trivial) ?_; rotate_left 2; (focus (simp only [List.getElem?_toArray, List.getElem?_cons_zero, List.getElem?_cons_succ] <;> rfl)); (focus (exact fun _ _ _ h => h)); (focus rfl); (focus (intro w hSw; (try dsimp only at hSw); go_simp; (try with_reducible rfl); done)); (try simp only [Act.put, List.setIfInBounds_toArray, List.set_cons_zero, List.set_cons_succ]))
                (refine wpAnyH_take (i := 13) (oi := ?_) (v := ?_) ?_ (by kernel_rfl) (by decide +kernel) (by decide +kernel) ?_ (Or.inl ⟨?_, ?_⟩) (by first | assumption | exact trivial) ?_; rotate_left 2; (focus (simp only [List.getElem?_toArray, List.getElem?_cons_zero, List.getElem?_cons_succ] <;> rfl)); (focus (exact fun _ _ _ h => h)); (focus rfl); (focus (intro w hSw; (try dsimp only at hSw); go_simp; (try with_reducible rfl); done)); (try simp only [Act.put, List.setIfInBounds_toArray, List.set_cons_zero, List.set_cons_succ]))
                (refine wpAnyH_take (i := 14) (oi := ?_) (v := ?_) ?_ (by kernel_rfl) (by decide +kernel) (by decide +kernel) ?_ (Or.inl ⟨?_, ?_⟩) (by first | assumption | exact trivial) ?_; rotate_left 2; (focus (simp only [List.getElem?_toArray, List.getElem?_cons_zero, List.getElem?_cons_succ] <;> rfl)); (focus (exact fun _ _ _ h => h)); (focus rfl); (focus (intro w hSw; (try dsimp only at hSw); go_simp; (try with_reducible rfl); done)); (try simp only [Act.put, List.setIfInBounds_toArray, List.set_cons_zero, List.set_cons_succ]))
                (refine wpAnyH_take (i := 15) (oi := ?_) (v := ?_) ?_ (by kernel_rfl) (by decide +kernel) (by decide +kernel) ?_ (Or.inl ⟨?_, ?_⟩) (by first | assumption | exact trivial) ?_; rotate_left 2; (focus (simp only [List.getElem?_toArray, List.getElem?_cons_zero, List.getElem?_cons_succ] <;> rfl)); (focus (exact fun _ _ _ h => h)); (focus rfl); (focus (intro w hSw; (try dsimp only at hSw); go_simp; (try with_reducible rfl); done)); (try simp only [Act.put, List.setIfInBounds_toArray, List.set_cons_zero, List.set_cons_succ]))
                refine wpAnyH_ready (rs := [16]) (by kernel_rfl) (by simp) ?_
                refine AllReadyH.cons (o := ?_) ?_ ?_ AllReadyH.nil
                rotate_left 1
                (focus (simp only [List.getElem?_toArray, List.getElem?_cons_zero, List.getElem?_cons_succ] <;> rfl))
                intro K hK
                go_simp
                go_at_call 38
                refine (HSM.out _ ((Only.refl (fun _ => False) w8).drew)).mono ?_
                rintro e w9 ⟨rfl, hq9⟩
                have HQ9 := Lib.hid ((Only.refl (fun _ => False) w8).drew.trans hq9)
                clear hq9
                dsimp only
                refine hK.out _ _ ?_ (fun hHeld => ?_)
                · exact HS.out _ HQ9.out
                clear hK K
                (try simp only [Act.put, List.setIfInBounds_toArray, List.set_cons_zero, List.set_cons_succ])
                (refine wpAnyH_take (i := 17) (oi := ?_) (v := ?_) ?_ (by kernel_rfl) (by decide +kernel) (by decide +kernel) ?_ (Or.inl ⟨?_, ?_⟩) (by first | assumption | exact trivial) ?_; rotate_left 2; (focus (simp only [List.getElem?_toArray, List.getElem?_cons_zero, List.getElem?_cons_succ] <;> rfl)); (focus (exact fun _ _ _ h => h)); (focus rfl); (focus (intro w hSw; (try dsimp only at hSw); go_simp; (try with_reducible rfl); done)); (try simp only [Act.put, List.setIfInBounds_toArray, List.set_cons_zero, List.set_cons_succ]))
                (refine wpAnyH_take (i := 18) (oi := ?_) (v := ?_) ?_ (by kernel_rfl) (by decide +kernel) (by decide +kernel) ?_ (Or.inl ⟨?_, ?_⟩) (by first | assumption | exact trivial) ?_; rotate_left 2; (focus (simp only [List.getElem?_toArray, List.getElem?_cons_zero, List.getElem?_cons_succ] <;> rfl)); (focus (exact fun _ _ _ h => h)); (focus rfl); (focus (intro w hSw; (try dsimp only at hSw); go_simp; (try with_reducible rfl); done)); (try simp only [Act.put, List.setIfInBounds_toArray, List.set_cons_zero, List.set_cons_succ]))
                (refine wpAnyH_take (i := 19) (oi := ?_) (v := ?_) ?_ (by kernel_rfl) (by decide +kernel) (by decide +kernel) ?_ (Or.inl ⟨?_, ?_⟩) (by first | assumption | exact trivial) ?_; rotate_left 2; (focus (simp only [List.getElem?_toArray, List.getElem?_cons_zero, List.getElem?_cons_succ] <;> rfl)); (focus (exact fun _ _ _ h => h)); (focus rfl); (focus (intro w hSw; (try dsimp only at hSw); go_simp; (try with_reducible rfl); done)); (try simp only [Act.put, List.setIfInBounds_toArray, List.set_cons_zero, List.set_cons_succ]))
                refine wpAnyH_done (by kernel_rfl) ?_ _
                clear hHeld
                go_wp2
                go_roundw
                case rel => exact ⟨q + 1, by omega, by go_num, HP8.out.kept HQ9.out (fun x => x), HW8.out.quietly HQ9.out⟩
                case measure => simp [intOf]; omega
          · go_wp2
            go_ret
            exact ⟨rfl, onward (Below.refl _ _) (Nat.le_refl _) HW7.out.quiet (fun _ x => x.elim)⟩
end Go.Proofs.Ytbibmgcklilpmaa
