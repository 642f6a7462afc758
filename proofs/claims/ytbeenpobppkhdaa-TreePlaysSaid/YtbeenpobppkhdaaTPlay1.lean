/- Trees that there aren't, keys that are too long; how high a tree is. No condition. -/
import Derived.Test.YtbeenpobppkhdaaTPair
namespace Go.Lap
/-- How often n can be halved till it is 1, and one. -/
def hvs (n : Nat) : Nat := if n ≤ 1 then 1 else hvs (n / 2) + 1
termination_by n
decreasing_by omega

theorem hvs_le {n : Nat} (h : n ≤ 1) : hvs n = 1 := by unfold hvs; rw [if_pos h]
theorem hvs_gt {n : Nat} (h : 1 < n) : hvs n = hvs (n / 2) + 1 := by
  conv => lhs; unfold hvs
  rw [if_neg (by omega)]

theorem hvs_pos (n : Nat) : 1 ≤ hvs n := by
  by_cases h : n ≤ 1
  · rw [hvs_le h]; exact Nat.le_refl _
  · rw [hvs_gt (by omega)]; omega

theorem hvs_pow : ∀ (h n : Nat), 2 ^ h ≤ n → h + 1 ≤ hvs n
  | 0, n, _ => hvs_pos n
  | h + 1, n, hn => by
    rw [Nat.pow_succ] at hn
    have h1 : 0 < 2 ^ h := Nat.pow_pos (by omega)
    rw [hvs_gt (by omega)]
    have := hvs_pow h (n / 2) (by omega)
    omega

theorem hvs_bound : ∀ (m n : Nat), n ≤ m → hvs n ≤ n + 1
  | 0, n, h => by
    obtain rfl : n = 0 := by omega
    rw [hvs_le (by omega)]
    omega
  | m + 1, n, h => by
    by_cases h1 : n ≤ 1
    · rw [hvs_le h1]; omega
    · rw [hvs_gt (by omega)]
      have := hvs_bound m (n / 2) (by omega)
      omega
end Go.Lap
namespace Go.Proofs.Ytbeenpobppkhdaa
open Go.RowKit Go.Lap

set_option maxRecDepth 100000 in
theorem tree_insert_nil (w : World) (e : Ent) (A : Option Addr) (c : Nat) : Calls Try.prog 12 #[.pointer none, entV e A c] w fun r w' => r = .returned (.int .i64 15) ∧ Quiet w w' := by
  have hq : Quiet w (w.alloc (.cells #[.slice A e.key.length c, .int .i64 e.pg, .int .i64 e.sl] 34)) := (Only.refl _ _).alloc _
  have HQ := Lib.hid hq
  clear hq
  go_enter Try.func12, Try.ntmps12
  go_wp2
  go_ret
  exact ⟨rfl, HQ.out⟩

set_option maxRecDepth 100000 in
theorem tree_insert_long (w : World) (D : Nat → Prop) (tb : Nat) (es : List Ent) (e : Ent) (A : Option Addr) (c : Nat) (ht : TreeIs w D tb es) (hl : 600 < e.key.length) : Calls Try.prog 12 #[ptrV tb, entV e A c] w fun r w' => r = .returned (.int .i64 2) ∧ Quiet w w' := by
  have hq : Quiet w (w.alloc (.cells #[.slice A e.key.length c, .int .i64 e.pg, .int .i64 e.sl] 34)) := (Only.refl _ _).alloc _
  have HQ := Lib.hid hq
  obtain ⟨t0, t1, t2⟩ := ent_cells (alloc_new w (.cells #[.slice A e.key.length c, .int .i64 e.pg, .int .i64 e.sl] 34))
  have d6 : decide ((600 : Int) < (e.key.length : Int)) = true := decide_eq_true (by omega)
  clear hq ht hl
  go_enter Try.func12, Try.ntmps12
  go_wp2
  go_ret
  exact ⟨rfl, HQ.out⟩

set_option maxRecDepth 100000 in
theorem ref_insert_nil (w : World) (e : Ent) (A : Option Addr) (c : Nat) : Calls Try.prog 18 #[.pointer none, entV e A c] w fun r w' => r = .returned (.int .i64 15) ∧ Quiet w w' := by
  have hq : Quiet w (w.alloc (.cells #[.slice A e.key.length c, .int .i64 e.pg, .int .i64 e.sl] 31)) := (Only.refl _ _).alloc _
  have HQ := Lib.hid hq
  clear hq
  go_enter Try.func18, Try.ntmps18
  go_wp2
  go_ret
  exact ⟨rfl, HQ.out⟩

set_option maxRecDepth 100000 in
theorem ref_insert_long (w : World) (xb : Nat) (e : Ent) (A : Option Addr) (c : Nat) (hl : 600 < e.key.length) : Calls Try.prog 18 #[ptrV xb, entV e A c] w fun r w' => r = .returned (.int .i64 2) ∧ Quiet w w' := by
  have hq : Quiet w (w.alloc (.cells #[.slice A e.key.length c, .int .i64 e.pg, .int .i64 e.sl] 31)) := (Only.refl _ _).alloc _
  have HQ := Lib.hid hq
  obtain ⟨t0, t1, t2⟩ := rent_cells (alloc_new w (.cells #[.slice A e.key.length c, .int .i64 e.pg, .int .i64 e.sl] 31))
  have d6 : decide ((600 : Int) < (e.key.length : Int)) = true := decide_eq_true (by omega)
  clear hq hl
  go_enter Try.func18, Try.ntmps18
  go_wp2
  go_ret
  exact ⟨rfl, HQ.out⟩

set_option maxRecDepth 100000 in
theorem tree_delete_nil (w : World) (e : Ent) (A : Option Addr) (c : Nat) : Calls Try.prog 23 #[.pointer none, entV e A c] w fun r w' => r = .returned (.int .i64 15) ∧ Quiet w w' := by
  have hq : Quiet w (w.alloc (.cells #[.slice A e.key.length c, .int .i64 e.pg, .int .i64 e.sl] 34)) := (Only.refl _ _).alloc _
  have HQ := Lib.hid hq
  clear hq
  go_enter Try.func23, Try.ntmps23
  go_wp2
  go_ret
  exact ⟨rfl, HQ.out⟩

set_option maxRecDepth 100000 in
theorem ref_delete_nil (w : World) (e : Ent) (A : Option Addr) (c : Nat) : Calls Try.prog 24 #[.pointer none, entV e A c] w fun r w' => r = .returned (.int .i64 15) ∧ Quiet w w' := by
  have hq : Quiet w (w.alloc (.cells #[.slice A e.key.length c, .int .i64 e.pg, .int .i64 e.sl] 31)) := (Only.refl _ _).alloc _
  have HQ := Lib.hid hq
  clear hq
  go_enter Try.func24, Try.ntmps24
  go_wp2
  go_ret
  exact ⟨rfl, HQ.out⟩

set_option maxRecDepth 100000 in
theorem tree_prune_nil (w : World) (v : Value) : Calls Try.prog 19 #[.pointer none, v] w fun r w' => r = .returned (.int .i64 0) ∧ w = w' := by
  go_enter Try.func19, Try.ntmps19
  go_wp2
  go_ret
  exact ⟨rfl, rfl⟩

set_option maxRecDepth 100000 in
theorem ref_prune_nil (w : World) (v : Value) : Calls Try.prog 20 #[.pointer none, v] w fun r w' => r = .returned (.int .i64 0) ∧ w = w' := by
  go_enter Try.func20, Try.ntmps20
  go_wp2
  go_ret
  exact ⟨rfl, rfl⟩

set_option maxRecDepth 100000 in
theorem tree_scan_nil (w : World) (v u : Value) : Calls Try.prog 14 #[.pointer none, v, u] w fun r w' => r = .returned (.slice none 0 0) ∧ w = w' := by
  go_enter Try.func14, Try.ntmps14
  go_wp2
  go_ret
  exact ⟨rfl, rfl⟩

set_option maxRecDepth 100000 in
theorem ref_scan_nil (w : World) (v u : Value) : Calls Try.prog 22 #[.pointer none, v, u] w fun r w' => r = .returned (.slice none 0 0) ∧ w = w' := by
  go_enter Try.func22, Try.ntmps22
  go_wp2
  go_ret
  exact ⟨rfl, rfl⟩

set_option maxRecDepth 100000 in
theorem tree_len_nil (w : World) : Calls Try.prog 16 #[.pointer none] w fun r w' => r = .returned (.int .i64 0) ∧ w = w' := by
  go_enter Try.func16, Try.ntmps16
  go_wp2
  go_ret
  exact ⟨rfl, rfl⟩

set_option maxRecDepth 100000 in
theorem tree_height_nil (w : World) : Calls Try.prog 25 #[.pointer none] w fun r w' => r = .returned (.int .i64 0) ∧ w = w' := by
  go_enter Try.func25, Try.ntmps25
  go_wp2
  go_ret
  exact ⟨rfl, rfl⟩

set_option maxHeartbeats 1000000 in
set_option maxRecDepth 100000 in
theorem tree_height {w : World} {D : Nat → Prop} {tb : Nat} {es : List Ent} (ht : TreeIs w D tb es) (hn : es.length ≤ 10000) :
    Calls Try.prog 25 #[ptrV tb] w fun e w' => ∃ h : Nat, e = .returned (.int .i64 (h : Int)) ∧ 1 ≤ h ∧ h ≤ hvs es.length ∧ w = w' := by
  obtain ⟨rb, h, F, K, xs, hm, hes, hr⟩ := ht
  obtain ⟨c0, _, _⟩ := hm.cells
  have hb : h + 1 ≤ hvs es.length := by
    have hl : es.length = xs.length := by rw [← hes]; simp
    rcases Nat.eq_zero_or_pos h with z | z
    · rw [z]; exact hvs_pos _
    · rw [hl]
      exact hvs_pow h _ (hm.node.many (fun y => by omega))
  have hhl : h ≤ 20000 := by have := hvs_bound es.length es.length (Nat.le_refl _); omega
  have HN := Lib.hid hm.node
  have HB := Lib.hid hb
  clear hm hes hr hb hn
  go_enter Try.func25, Try.ntmps25
  go_wp2_with fail
  go_loopw [3, 4] (fun cn cx wr => ∃ (d b : Nat) (F' : Nat → Prop) (xs' : List EV), d ≤ h ∧ cn = .int .i64 ((d : Int) + 1) ∧ cx = ptrV b ∧ NodeAt K (h - d) w b F' xs' ∧ wr = w) (fun cn _ _ => h + 1 - (intOf cn).toNat)
  case atStart => exact ⟨0, rb, F, xs, Nat.zero_le _, by go_num, rfl, HN.out, rfl⟩
  case round =>
    obtain ⟨d, b, F', xs', hd, rfl, rfl, hnode, rfl⟩ := hrel
    by_cases hlt : d < h
    · obtain ⟨e, he⟩ : ∃ e, h - d = e + 1 := ⟨h - d - 1, by omega⟩
      rw [he] at hnode
      obtain ⟨v, u, ks, hin, _⟩ := hnode
      obtain ⟨g, c, hu, hc, hcm⟩ := hin.form
      subst hu
      have h2 := hin.two
      obtain ⟨n, hn⟩ : ∃ n, ks.length = n := ⟨_, rfl⟩
      have hbox := hin.box
      rw [hn] at hbox h2
      have HLF := Lib.hid (leaf_any b _ _ _ _ _ hbox)
      obtain ⟨x, hx⟩ : ∃ x, ks[0]? = some x := ⟨_, List.getElem?_eq_getElem (by omega)⟩
      have k0 : wr.cell? ⟨b, 1, none⟩ = some (.slice (some ⟨g, 0, none⟩) n c) := by rw [cell_of hbox]; rfl
      have k1 : wr.cell? ⟨g, 0, none⟩ = some (ptrV x.b) := by
        have := hin.kids.cells rfl 0 (ptrV x.b) (by rw [kptrs, List.getElem?_map, hx]; rfl)
        rw [add_none] at this
        exact this
      have HK : Hid (NodeAt K (h - (d + 1)) wr x.b x.F x.xs) := by
        show NodeAt K (h - (d + 1)) wr x.b x.F x.xs
        rw [show h - (d + 1) = e by omega]
        exact (hin.kid x (List.mem_of_getElem? hx)).2
      have d1 : (0 : Int) < (n : Int) := by omega
      clear hin hbox hx he c0 hn
      go_wp2_with fail
      refine HLF.out.mono ?_
      rintro r w1 ⟨rfl, rfl⟩
      clear HLF
      go_wp2
      go_roundw
      case rel => exact ⟨d + 1, x.b, x.F, x.xs, by omega, by go_num, rfl, HK.out, trivial⟩
      case measure => simp [intOf]; omega
    · rw [show h - d = 0 by omega] at hnode
      obtain ⟨v, hle⟩ := hnode
      have HLF := Lib.hid hle.leaf
      have HRES : Hid (∃ q : Nat, ((d : Int) + 1) = (q : Int) ∧ 1 ≤ q ∧ q ≤ hvs es.length) := ⟨d + 1, by omega, by omega, by have := HB.out; omega⟩
      clear hle c0
      go_wp2_with fail
      refine HLF.out.mono ?_
      rintro r w1 ⟨rfl, rfl⟩
      clear HLF
      go_wp2
      go_ret
      obtain ⟨q, h1, h2, h3⟩ := HRES.out
      exact ⟨q, by rw [← h1]; rfl, h2, h3, rfl⟩

set_option maxHeartbeats 1000000 in
set_option maxRecDepth 100000 in
theorem halves_any (n : Nat) (w : World) (hn : n ≤ 100000) : Calls Try.prog 26 #[.int .i64 (n : Int)] w fun e w' => e = .returned (.int .i64 (hvs n : Int)) ∧ w = w' := by
  obtain ⟨hv, hhv⟩ : ∃ hv, hvs n = hv := ⟨_, rfl⟩
  have hb : hv ≤ 100001 := by have := hvs_bound n n (Nat.le_refl _); omega
  have HV := Lib.hid hhv
  rw [hhv]
  clear hhv
  go_enter Try.func26, Try.ntmps26
  go_wp2_with fail
  go_loopw [0, 3] (fun cq ck wr => ∃ (q k : Nat), q ≤ n ∧ cq = .int .i64 (q : Int) ∧ ck = .int .i64 (k : Int) ∧ k + hvs q = hv + 1 ∧ wr = w) (fun cq _ _ => (intOf cq).toNat)
  case atStart => exact ⟨n, 1, Nat.le_refl _, rfl, rfl, by rw [HV.out]; omega, rfl⟩
  case round =>
    obtain ⟨q, k, hq, rfl, rfl, hk, rfl⟩ := hrel
    have HK := Lib.hid hk
    have hkl : k ≤ 100002 := by omega
    clear hk
    by_cases hlt : 1 < q
    · obtain ⟨q2, hq2⟩ : ∃ q2, q / 2 = q2 := ⟨_, rfl⟩
      have HQ2 := Lib.hid hq2
      have t2 : (q : Int).tdiv 2 = (q2 : Int) := by rw [Int.tdiv_eq_ediv_of_nonneg (by omega)]; omega
      have hql : q2 < q := by omega
      have hql2 : q2 ≤ n := by omega
      have d1 : (1 : Int) < (q : Int) := by omega
      clear hq2
      go_wp2
      go_roundw
      case rel => exact ⟨q2, k + 1, hql2, by go_num, by go_num, by have := HK.out; have := hvs_gt hlt; rw [HQ2.out] at this; omega, trivial⟩
      case measure => simp [intOf]; omega
    · have HR : Hid (k = hv) := by have := HK.out; rw [hvs_le (by omega)] at this; show k = hv; omega
      have d1 : ¬ (1 : Int) < (q : Int) := by omega
      go_wp2
      go_ret
      rw [HR.out]
      exact ⟨rfl, rfl⟩

end Go.Proofs.Ytbeenpobppkhdaa
