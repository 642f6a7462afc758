/- The contracts of bytes.Compare, cmp.Compare, cmp.Or and of the tree's order. No condition. -/
import Derived.Test.YtbeenpobppkhdaaTBytes
import Derived.Test.YtbeenpobppkhdaaTreePlain
import Derived.Lib.Bytealg
namespace Go.Proofs.Ytbeenpobppkhdaa
open Go.RowKit Go.Lap

theorem load_bytes (w : World) (b : Nat) : ∀ (l : List Nat), (∀ x ∈ l, x < 256) → ∀ (off : Nat) (acc : ByteArray), (∀ j u, (bytesV l)[j]? = some u → w.cell? ⟨b, off + j, none⟩ = some u) →
    (Extern.Bytes.loadBytes ⟨b, off, none⟩ l.length acc).run Try.prog w = .ok ⟨acc.data ++ (l.map UInt8.ofNat).toArray⟩ w
  | [], _, off, acc, _ => by simp [Extern.Bytes.loadBytes]
  | x :: l, hb, off, acc, h => by
    have h0 : w.cell? ⟨b, off, none⟩ = some (.int .u8 (x : Int)) := h 0 (.int .u8 x) rfl
    have hx := hb x (by simp)
    have ih := load_bytes w b l (fun y hy => hb y (by simp [hy])) (off + 1) (acc.push (UInt8.ofNat x)) (fun j u hu => by
      have := h (j + 1) u (by simpa [bytesV] using hu)
      rw [show off + 1 + j = off + (j + 1) by omega]
      exact this)
    have e : ((x : Int).toNat).toUInt8 = UInt8.ofNat x := by simp
    simp only [List.length_cons, Extern.Bytes.loadBytes, Sem.run_bind, run_load, h0, Result.andThen, add_none, e]
    rw [ih]
    congr 1
    apply ByteArray.ext
    simp [ByteArray.push]

theorem bytes_of (A : Option Addr) (cap : Nat) (l : List Nat) (S : Nat → Prop) (w : World) (hr : Rd w S 1 A l.length (bytesV l)) (hb : ∀ x ∈ l, x < 256) :
    (Extern.Bytes.bytesOf (.slice A l.length cap)).run Try.prog w = .ok ⟨(l.map UInt8.ofNat).toArray⟩ w := by
  rcases A with _ | ⟨b, off, sp⟩
  · have hl0 : l = [] := by
      rcases l with _ | ⟨x, l⟩
      · rfl
      · obtain ⟨b, off, e, _⟩ := hr.cells (by simp [bytesV]); cases e
    subst hl0
    rfl
  · rcases l with _ | ⟨x, l⟩
    · rfl
    · obtain ⟨b', off', e, _, hc⟩ := hr.cells (by simp [bytesV])
      injection e with e
      rw [e]
      have := load_bytes w b' (x :: l) hb off' .empty hc
      show (Extern.Bytes.loadBytes ⟨b', off', none⟩ (x :: l).length .empty).run Try.prog w = _
      rw [this]
      congr 1
      apply ByteArray.ext
      show (#[] : Array UInt8) ++ _ = _
      simp

theorem run_cmpB (A B : Option Addr) (ca cb : Nat) (l m : List Nat) (S S' : Nat → Prop) (w : World) (hr : Rd w S 1 A l.length (bytesV l)) (hr' : Rd w S' 1 B m.length (bytesV m)) (hb : ∀ x ∈ l, x < 256) (hb' : ∀ x ∈ m, x < 256) :
    (Extern.BytealgCompare.compare #[.slice A l.length ca, .slice B m.length cb]).run Try.prog w = .ok (.int .i64 (cmpB l m)) w := by
  change Sem.run Try.prog (do pure (goInt (Extern.BytealgCompare.cmp (← Extern.Bytes.bytesOf (.slice A l.length ca)) (← Extern.Bytes.bytesOf (.slice B m.length cb))))) w = _
  simp only [Sem.run_bind, Sem.run_pure, bytes_of A ca l S w hr hb, bytes_of B cb m S' w hr' hb', Result.andThen]
  rw [Lib.cmp_eq]
  simp only [List.toList_toArray]
  rw [cmpB_model l m hb hb']
  rfl

set_option maxRecDepth 100000 in
theorem compare_any (A B : Option Addr) (ca cb : Nat) (l m : List Nat) (S S' : Nat → Prop) (w : World) (hr : Rd w S 1 A l.length (bytesV l)) (hr' : Rd w S' 1 B m.length (bytesV m)) (hb : ∀ x ∈ l, x < 256) (hb' : ∀ x ∈ m, x < 256) :
    Calls Try.prog 46 #[.slice A l.length ca, .slice B m.length cb] w fun e w' => e = .returned (.int .i64 (cmpB l m)) ∧ w = w' := by
  have h := Lib.hid (run_cmpB A B ca cb l m S S' w hr hr' hb hb')
  clear hr hr' hb hb'
  go_enter Try.func46, Try.ntmps46
  go_wp2
  rw [run_callFunc_extern Try.func55 (by kernel_rfl) (by kernel_rfl) (by kernel_rfl) (e := Extern.BytealgCompare.compare) (by kernel_rfl), h.out]
  simp only [Result.andThen]
  rw [Oper.upon_value]
  go_wp2
  go_ret
  exact ⟨rfl, rfl⟩

set_option maxRecDepth 100000 in
theorem isNaN_any (x : Int) (w : World) : Calls Try.prog 56 #[.int .i64 x] w fun e w' => e = .returned (.bool false) ∧ w = w' := by
  go_enter Try.func56, Try.ntmps56
  go_wp2
  go_ret
  exact ⟨by simp, rfl⟩

set_option maxRecDepth 100000 in
theorem compareI_any (x y : Int) (w : World) : Calls Try.prog 50 #[.int .i64 x, .int .i64 y] w fun e w' => e = .returned (.int .i64 (cmpI x y)) ∧ w = w' := by
  have hR : cmpI x y = if x < y then -1 else if y < x then 1 else 0 := rfl
  by_cases h1 : x < y
  · rw [if_pos h1] at hR
    have HR := Lib.hid hR
    clear hR
    go_enter Try.func50, Try.ntmps50
    go_wp2_with fail
    refine (isNaN_any _ _).mono ?_
    rintro e w1 ⟨rfl, rfl⟩
    go_wp2_with fail
    refine (isNaN_any _ _).mono ?_
    rintro e w1 ⟨rfl, rfl⟩
    go_wp2
    go_ret
    rw [HR.out]
    exact ⟨rfl, rfl⟩
  · rw [if_neg h1] at hR
    by_cases h2 : y < x
    · rw [if_pos h2] at hR
      have HR := Lib.hid hR
      clear hR
      go_enter Try.func50, Try.ntmps50
      go_wp2_with fail
      refine (isNaN_any _ _).mono ?_
      rintro e w1 ⟨rfl, rfl⟩
      go_wp2_with fail
      refine (isNaN_any _ _).mono ?_
      rintro e w1 ⟨rfl, rfl⟩
      go_wp2
      go_ret
      rw [HR.out]
      exact ⟨rfl, rfl⟩
    · rw [if_neg h2] at hR
      have HR := Lib.hid hR
      clear hR
      have h3 : x = y := by omega
      subst h3
      go_enter Try.func50, Try.ntmps50
      go_wp2_with fail
      refine (isNaN_any _ _).mono ?_
      rintro e w1 ⟨rfl, rfl⟩
      go_wp2_with fail
      refine (isNaN_any _ _).mono ?_
      rintro e w1 ⟨rfl, rfl⟩
      go_wp2
      go_ret
      rw [HR.out]
      exact ⟨rfl, rfl⟩

def orV (x y z : Int) : Int := if x ≠ 0 then x else if y ≠ 0 then y else z

set_option maxHeartbeats 400000 in
set_option maxRecDepth 100000 in
theorem or_any (b : Nat) (x y z : Int) (t : TypeId) (w : World) (h : w.heap[b]? = some (.cells #[.int .i64 x, .int .i64 y, .int .i64 z] t (0, 0))) :
    Calls Try.prog 49 #[.slice (some ⟨b, 0, none⟩) 3 3] w fun e w' => e = .returned (.int .i64 (orV x y z)) ∧ w = w' := by
  obtain ⟨c0, c1, c2⟩ : w.cell? ⟨b, 0, none⟩ = some (.int .i64 x) ∧ w.cell? ⟨b, 1, none⟩ = some (.int .i64 y) ∧ w.cell? ⟨b, 2, none⟩ = some (.int .i64 z) := ⟨by rw [cell_of h]; rfl, by rw [cell_of h]; rfl, by rw [cell_of h]; rfl⟩
  have hR := Lib.hid (show orV x y z = if x ≠ 0 then x else if y ≠ 0 then y else z from rfl)
  clear h
  go_enter Try.func49, Try.ntmps49
  go_wp2_with fail
  go_loopw [8, 5] (fun c _ wr => wr = w ∧ ∃ k : Nat, k ≤ 3 ∧ c = .int .i64 (k : Int) ∧ (0 < k → x = 0) ∧ (1 < k → y = 0) ∧ (2 < k → z = 0)) (fun c _ _ => 3 - (intOf c).toNat)
  case atStart => exact ⟨rfl, 0, Nat.zero_le _, rfl, fun h => by omega, fun h => by omega, fun h => by omega⟩
  case round =>
    obtain ⟨rfl, k, hk, rfl, k0, k1, k2⟩ := hrel
    rcases (show k = 0 ∨ k = 1 ∨ k = 2 ∨ k = 3 by omega) with rfl | rfl | rfl | rfl
    · clear k0 k1 k2 hk
      by_cases e : x = 0
      · have d : (x != 0) = false := by simp [e]
        go_wp2
        go_roundw
        case rel => exact ⟨trivial, 1, by omega, by go_num, fun _ => e, fun h => by omega, fun h => by omega⟩
        case measure => simp [intOf]
      · have d : (x != 0) = true := by simp [e]
        go_wp2
        go_ret
        rw [hR.out, if_pos e]
        exact ⟨rfl, rfl⟩
    · have e0 := k0 (by omega)
      clear k0 k1 k2 hk
      have H0 := Lib.hid e0
      clear e0
      by_cases e : y = 0
      · have d : (y != 0) = false := by simp [e]
        have HE := Lib.hid e
        clear e
        go_wp2
        go_roundw
        case rel => exact ⟨trivial, 2, by omega, by go_num, fun _ => H0.out, fun _ => HE.out, fun h => by omega⟩
        case measure => simp [intOf]
      · have d : (y != 0) = true := by simp [e]
        go_wp2
        go_ret
        rw [hR.out, if_neg (by simp [H0.out]), if_pos e]
        exact ⟨rfl, rfl⟩
    · have e0 := k0 (by omega)
      have e1 := k1 (by omega)
      clear k0 k1 k2 hk
      have H0 := Lib.hid e0
      have H1 := Lib.hid e1
      clear e0 e1
      by_cases e : z = 0
      · have d : (z != 0) = false := by simp [e]
        have HE := Lib.hid e
        clear e
        go_wp2
        go_roundw
        case rel => exact ⟨trivial, 3, by omega, by go_num, fun _ => H0.out, fun _ => H1.out, fun _ => HE.out⟩
        case measure => simp [intOf]
      · have d : (z != 0) = true := by simp [e]
        go_wp2
        go_ret
        rw [hR.out, if_neg (by simp [H0.out]), if_neg (by simp [H1.out])]
        exact ⟨rfl, rfl⟩
    · have e0 := k0 (by omega)
      have e1 := k1 (by omega)
      have e2 := k2 (by omega)
      clear k0 k1 k2 hk c0 c1 c2
      have H0 := Lib.hid e0
      have H1 := Lib.hid e1
      have H2 := Lib.hid e2
      clear e0 e1 e2
      go_wp2
      go_ret
      rw [hR.out, if_neg (by simp [H0.out]), if_neg (by simp [H1.out]), H2.out]
      exact ⟨rfl, rfl⟩

/-- An entry's value. -/
abbrev entV (e : Ent) (A : Option Addr) (c : Nat) : Value := .agg #[.slice A e.key.length c, .int .i64 e.pg, .int .i64 e.sl]

theorem or_cmp (a b : Ent) : orV (cmpB a.key b.key) (cmpI a.pg b.pg) (cmpI a.sl b.sl) = cmpE a b := rfl

theorem two_new (w : World) (o o' : Obj) : ((w.alloc o).alloc o').heap[w.heap.size + 1]? = some o' := by
  have := alloc_new (w.alloc o) o'
  rw [World.size_alloc] at this
  exact this

theorem three_new (w : World) (o o' o'' : Obj) : (((w.alloc o).alloc o').alloc o'').heap[w.heap.size + 1 + 1]? = some o'' := by
  have := two_new (w.alloc o) o' o''
  rw [World.size_alloc] at this
  exact this

/-- The three cells of an entry in a box. -/
theorem ent_cells {w : World} {b : Nat} {t : TypeId} {fr : Nat × Nat} {x y z : Value} (h : w.heap[b]? = some (.cells #[x, y, z] t fr)) : w.cell? ⟨b, 0, none⟩ = some x ∧ w.cell? ⟨b, 1, none⟩ = some y ∧ w.cell? ⟨b, 2, none⟩ = some z :=
  ⟨by rw [cell_of h]; rfl, by rw [cell_of h]; rfl, by rw [cell_of h]; rfl⟩

set_option maxHeartbeats 1000000 in
set_option maxRecDepth 100000 in
theorem order_any (a b : Ent) (A B : Option Addr) (ca cb : Nat) (S S' : Nat → Prop) (w : World) (hr : Rd w S 1 A a.key.length (bytesV a.key)) (hr' : Rd w S' 1 B b.key.length (bytesV b.key)) (hb : ∀ x ∈ a.key, x < 256) (hb' : ∀ x ∈ b.key, x < 256) :
    Calls Try.prog 37 #[entV a A ca, entV b B cb] w fun e w' => e = .returned (.int .i64 (cmpE a b)) ∧ Quiet w w' := by
  rw [← or_cmp]
  have hq0 : Quiet w ((w.alloc (.cells #[.slice A a.key.length ca, .int .i64 a.pg, .int .i64 a.sl] 34)).alloc (.cells #[.slice B b.key.length cb, .int .i64 b.pg, .int .i64 b.sl] 34)) := ((Only.refl _ _).alloc _).alloc _
  have HQ := Lib.hid hq0
  have HC := Lib.hid (fun (W : World) (hq : Quiet w W) => compare_any A B ca cb a.key b.key S S' W (hr.kept hq (fun _ _ x => x)) (hr'.kept hq (fun _ _ x => x)) hb hb')
  clear hr hr' hb hb' hq0
  go_enter Try.func37, Try.ntmps37
  go_wp2_with fail
  go_region_held3 (fun w' => w'.cell? ⟨w.heap.size, 0, none⟩ = some (.slice A a.key.length ca) ∧ w'.cell? ⟨w.heap.size, 1, none⟩ = some (.int .i64 a.pg) ∧ w'.cell? ⟨w.heap.size, 2, none⟩ = some (.int .i64 a.sl) ∧ w'.cell? ⟨w.heap.size + 1, 0, none⟩ = some (.slice B b.key.length cb) ∧ w'.cell? ⟨w.heap.size + 1, 1, none⟩ = some (.int .i64 b.pg) ∧ w'.cell? ⟨w.heap.size + 1, 2, none⟩ = some (.int .i64 b.sl))
    (first | go_keep | fail)
    (first
      | (go_at_call 46; go_must (refine (HC.out _ (HQ.out.drew)).mono ?_; rintro e w2 ⟨rfl, rfl⟩))
      | (go_at_call 50; go_must (refine (compareI_any _ _ _).mono ?_; rintro e w2 ⟨rfl, rfl⟩))
      | (go_at_call 49; go_must (refine (or_any (w.heap.size + 1 + 1) _ _ _ 3 _ (by exact three_new _ _ _ _)).mono ?_; rintro e w2 ⟨rfl, rfl⟩))
      | fail)
  go_wp2
  go_ret
  exact ⟨rfl, (HQ.out.alloc _).drew⟩

end Go.Proofs.Ytbeenpobppkhdaa
