/- The contract of page.Load, of any bytes. No condition. -/
import Derived.Test.YtbibmgcklilpmaaSound
import Derived.Test.YtbibmgcklilpmaaPageMove
import Derived.Laws.Tables
namespace Go.Lap
open Go.RowKit

section
variable {P : Program}

/-- A whole array or struct read, wherever its cells lie. -/
theorem run_loadVar_at (w : World) (b off : Nat) (ty : TypeId) (cs : Array Value) (d : TypeDesc) (hc : ∀ j v, cs[j]? = some v → w.cell? ⟨b, off + j, none⟩ = some v)
    (hu : P.underlying ty = some d) (hd : (match d with | .struct _ | .array _ _ => true | _ => false) = true) (hi : (P.info? ty).map (·.size) = some cs.size) :
    (loadVar ty ⟨b, off, none⟩).run P w = .ok (.agg cs) w := by
  have hl : (loadCells ⟨b, off, none⟩ cs.toList.length).run P w = .ok cs.toList.toArray w :=
    run_loadCells_list (P := P) w ⟨b, off, none⟩ cs.toList (fun j v hv => by
      rw [add_none]
      exact hc j v (by simpa using hv))
  cases hq : P.info? ty with
  | none => simp [hq] at hi
  | some i =>
    have hs : i.size = cs.size := by simpa [hq] using hi
    have hagg : (isAgg ty).run P w = .ok true w := by
      unfold isAgg
      rw [Sem.run_bind, run_underlying hu w]
      cases d <;> simp_all
    simp only [Array.length_toList, Array.toArray_toList] at hl
    simp [loadVar, Sem.run_bind, hagg, sizeOf, typeInfo, hq, hs, hl]

theorem wpList_load_at {ops : Array Oper} {rest : List Oper} {o : Oper} {a : Act} {w : World} {Q : Exit → Act → World → Prop} (hgd : o.guard = none) (ty : TypeId) (x : Operand) (ho : o.op = .load ty x)
    (b off : Nat) (hx : a.eval x = .pointer (some ⟨b, off, none⟩)) (cs : Array Value) (d : TypeDesc) (hc : ∀ j v, cs[j]? = some v → w.cell? ⟨b, off + j, none⟩ = some v)
    (hu : P.underlying ty = some d) (hd : (match d with | .struct _ | .array _ _ => true | _ => false) = true) (hi : (P.info? ty).map (·.size) = some cs.size)
    (h : wpList P ops Q rest (a.put o.dst (.agg cs)) w) : wpList P ops Q (o :: rest) a w :=
  wpList_plain hgd fun K hK => by
    have hk := hK _ _ h
    unfold Oper.wp execOp
    simp only [ho, hx, Instr.loadAt, Instr.sureAddr, Sem.run_bind, Sem.run_pure, Result.andThen_ok, run_loadVar_at w b off ty cs d hc hu hd hi]
    exact hk

/-- A struct of one part, built. -/
theorem wpList_build_one {ops : Array Oper} {rest : List Oper} {o : Oper} {a : Act} {w : World} {Q : Exit → Act → World → Prop} (hgd : o.guard = none) (t : TypeId) (x : Operand) (ho : o.op = .build t #[(0, x)])
    (v : Value) (hx : a.eval x = v) (cells : Array Value) (hf : P.built t [(0, v)] = some cells) (h : wpList P ops Q rest (a.put o.dst (.agg cells)) w) : wpList P ops Q (o :: rest) a w :=
  wpList_plain hgd fun K hK => by
    have hk := hK _ _ h
    have hp : (#[((0, x) : Nat × Operand)].map fun (i, x) => (i, a.eval x)) = #[(0, v)] := by simp [hx]
    unfold Oper.wp execOp
    simp only [ho, Sem.run_bind, hp, run_build w t #[(0, v)] cells hf, Result.andThen_ok]
    exact hk
end

/-- Bytes as a function. -/
def gOf (l : List Nat) : Nat → Nat := fun i => l.getD i 0

theorem gOf_lt {l : List Nat} (h : ∀ x ∈ l, x < 256) : ∀ i, gOf l i < 256 := by
  intro i
  unfold gOf
  rw [List.getD_eq_getElem?_getD]
  rcases hx : l[i]? with _ | x
  · simp
  · exact h x (List.mem_of_getElem? hx)

end Go.Lap
namespace Go.Proofs.Ytbibmgcklilpmaa
open Go.RowKit Go.Lap

theorem gOf_tab {l : List Nat} (h : l.length = 512) : tab 512 (byteF (gOf l)) = (bytesV l).toArray := by
  apply Array.ext_getElem?
  intro i
  by_cases hi : i < 512
  · rw [tab_get hi]
    unfold byteF gOf bytesV
    rw [List.getElem?_toArray, List.getElem?_map, List.getElem?_eq_getElem (by omega), List.getD_eq_getElem?_getD, List.getElem?_eq_getElem (by omega)]
    rfl
  · rw [Array.getElem?_eq_none (by rw [tab_size]; omega), Array.getElem?_eq_none (by simp [bytesV]; omega)]

theorem info_512 : (Try.prog.info? 137).map (·.size) = some 512 := by kernel_rfl

theorem array_at (b off n cap : Nat) (h : 512 ≤ n) (w : World) : (Instr.arrayAt 137 (.slice (some ⟨b, off, none⟩) n cap)).run Try.prog w = .ok (.pointer (some ⟨b, off, none⟩)) w := by
  unfold Instr.arrayAt
  rw [Sem.run_bind, run_underlying und512]
  simp [arr512, show ¬ n < 512 by omega]

theorem foldl_all (cs : List Value) : ∀ (k : Nat) (z : Array Value), z.size = k + cs.length → ((cs.zipIdx k).foldl (fun a (c, j) => a.setIfInBounds (0 + j) c) z) = (z.toList.take k ++ cs).toArray := by
  induction cs with
  | nil =>
    intro k z hz
    simp only [List.length_nil, Nat.add_zero] at hz
    rw [List.append_nil, List.take_of_length_le (by rw [Array.length_toList, hz]; exact Nat.le_refl _)]
    rfl
  | cons c cs ih =>
    intro k z hz
    simp only [List.length_cons] at hz
    rw [List.zipIdx_cons, List.foldl_cons, ih (k + 1) _ (by simp; omega)]
    congr 1
    simp only [Nat.zero_add, Array.toList_setIfInBounds]
    rw [List.take_add_one, List.take_set_of_le (Nat.le_refl k), List.getElem?_set]
    simp [show k < z.size by omega]

theorem fill_one (n : Nat) (z cs : Array Value) (hz : z.size = n) (hc : cs.size = n) : Instr.fill (#[((0, n) : Nat × Nat)][·]?) z [(0, .agg cs)] = some cs := by
  have hv : (Value.agg cs).cells = cs := rfl
  have hx : (cs.zipIdx.foldl (fun (a : Array Value) (x : Value × Nat) => a.setIfInBounds (0 + x.2) x.1) z) = cs := by
    have := foldl_all cs.toList 0 z (by rw [hz, Array.length_toList, hc, Nat.zero_add])
    simp only [List.take_zero, List.nil_append, Array.toArray_toList] at this
    refine Eq.trans ?_ this
    rw [← Array.foldl_toList]
    simp
  rw [Instr.fill]
  simp only [List.getElem?_toArray, List.getElem?_cons_zero, hv, hc, hz]
  rw [if_neg (by simp)]
  rw [Instr.fill]
  exact congrArg some hx

set_option maxRecDepth 100000 in
theorem built_page (g : Nat → Nat) : Try.prog.built 139 [(0, .agg (tab 512 (byteF g)))] = some (tab 512 (byteF g)) := by
  have hp : ∀ parts, Try.prog.built 139 parts = Instr.fill (#[((0, 512) : Nat × Nat)][·]?) Try.zeroCells139 parts := fun parts => by kernel_rfl
  exact (hp _).trans (fill_one 512 _ _ (by kernel_rfl) (tab_size _ _))

theorem build_page (g : Nat → Nat) (w : World) : (Instr.build 139 #[(0, .agg (tab 512 (byteF g)))]).run Try.prog w = .ok (.agg (tab 512 (byteF g))) w := run_build w _ _ _ (built_page g)

theorem gOf_cell {w : World} {S : Nat → Prop} {A : Option Addr} {l : List Nat} (hd : Rd w S 1 A l.length (bytesV l)) (h0 : 0 < l.length) : ∃ b off, A = some ⟨b, off, none⟩ ∧ S b ∧ ∀ i, i < l.length → w.cell? ⟨b, off + i, none⟩ = some (.int .u8 (gOf l i : Int)) := by
  obtain ⟨b, off, e, hb, hc⟩ := hd.cells (by simpa [bytesV] using h0)
  refine ⟨b, off, e, hb, fun i hi => hc i _ ?_⟩
  unfold bytesV gOf
  rw [List.getElem?_map, List.getD_eq_getElem?_getD, List.getElem?_eq_getElem hi]
  rfl

def LoadPost (g : Nat → Nat) (w : World) (e : Ending) (w' : World) : Prop :=
  Quiet w w' ∧ ((PgOk g ∧ ∃ b, e = .returned (.tuple #[.pointer (some ⟨b, 0, none⟩), .int .i64 0]) ∧ w.heap.size ≤ b ∧ Bk w' b 512 pageT g) ∨ (¬ PgOk g ∧ e = .returned (.tuple #[.pointer none, .int .i64 3])))

set_option maxHeartbeats 1000000 in
set_option maxRecDepth 100000 in
/-- Bytes of another length are no page's. -/
theorem page_load_len (A : Option Addr) (n cap : Nat) (w : World) (h : n ≠ 512) :
    Calls Try.prog 61 #[.slice A n cap] w fun e w' => e = .returned (.tuple #[.pointer none, .int .i64 3]) ∧ w = w' := by
  have d0 : ((n : Int) != 512) = true := by simp; omega
  go_enter Try.func61, Try.ntmps61
  go_wp2
  go_ret2
  exact ⟨rfl, rfl⟩

set_option maxHeartbeats 1000000 in
set_option maxRecDepth 100000 in
theorem page_load (A : Option Addr) (cap : Nat) (l : List Nat) (S : Nat → Prop) (w : World) (hl : l.length = 512) (hby : ∀ x ∈ l, x < 256) (hd : Rd w S 1 A l.length (bytesV l)) :
    Calls Try.prog 61 #[.slice A 512 cap] w (LoadPost (gOf l) w) := by
  obtain ⟨b, off, rfl, _, hc⟩ := gOf_cell hd (by omega)
  have HC : Hid (∀ j v, (tab 512 (byteF (gOf l)))[j]? = some v → w.cell? ⟨b, off + j, none⟩ = some v) := Lib.hid (fun j v hv => by
    have hj : j < 512 := by
      rcases Nat.lt_or_ge j 512 with x | x
      · exact x
      · rw [Array.getElem?_eq_none (by rw [tab_size]; exact x)] at hv; cases hv
    rw [tab_get hj] at hv
    rw [hc j (by omega), ← hv]
    rfl)
  have HB : Hid (Bk (w.alloc (.cells (tab 512 (byteF (gOf l))) 139)) w.heap.size 512 pageT (gOf l)) := Lib.hid (alloc_new w _)
  have HS := Lib.hid (sound_any w.heap.size (gOf l) _ HB.out (gOf_lt hby))
  have harr := fun W => array_at b off 512 cap (Nat.le_refl _) W
  have hbld := built_page (gOf l)
  have HBLD := Lib.hid hbld
  have hsz : (Try.prog.info? 137).map (·.size) = some (tab 512 (byteF (gOf l))).size := by rw [tab_size]; exact info_512
  have HSZ := Lib.hid hsz
  clear hd hc hl hby hsz hbld
  generalize gOf l = g at HC HB HS HBLD HSZ ⊢
  unfold LoadPost
  generalize tab 512 (byteF g) = T at HC HB HS HBLD HSZ
  go_enter Try.func61, Try.ntmps61
  go_wp2_with (first | (refine wpList_load_at rfl 137 (.tmp 9) rfl b off rfl T _ HC.out und512 rfl HSZ.out ?_) | (refine wpList_build_one rfl 139 (.tmp 10) rfl (.agg T) rfl T HBLD.out ?_) | fail)
  go_wp2_with fail
  refine HS.out.mono ?_
  rintro e w' ⟨B, rfl, hB, hq⟩
  have HQ : Hid (Quiet w w') := Lib.hid (((Only.refl _ _).alloc _).trans hq)
  have HB2 := Lib.hid (HB.out.kept hq (fun x => x))
  rcases B with _ | _
  · have HNO : Hid (¬ PgOk g) := Lib.hid (fun h => by cases hB.2 h)
    clear hB hq
    go_wp2
    go_ret2
    exact ⟨HQ.out, Or.inr ⟨HNO.out, rfl⟩⟩
  · have HYES : Hid (PgOk g) := Lib.hid (hB.1 rfl)
    clear hB hq
    go_wp2
    go_ret2
    exact ⟨HQ.out, Or.inl ⟨HYES.out, _, rfl, Nat.le_refl _, HB2.out⟩⟩

end Go.Proofs.Ytbibmgcklilpmaa
