/- A set of places, as a map whose keys are places. No condition. -/
import Derived.Test.YtbibmgcklilpmaaBase
import Derived.Maps.OwnOps
import Derived.Maps.OwnSet
import Derived.Maps.Ext
import Derived.DeepKeys4
namespace Go.Proofs.Ytbibmgcklilpmaa
open Go.RowKit Go.Lap Go.Maps

theorem laidOutS : laidOutB Try.prog = true := by kernel_rfl
theorem row_tid : (51 : TypeId) < Try.prog.types.size := of_decide_eq_true (by kernel_rfl)
theorem wide_tid : (match Try.prog.underlying 51 with | some (.array _ _) | some (.struct _) => true | _ => false) = true := by kernel_rfl
set_option maxRecDepth 100000 in
theorem keyed_tid : Keyed Try.prog 51 := Keyed.of_law (deep_law_laid laidOutS (m := 2) (by omega) row_tid (by kernel_rfl) wide_tid)

/-- A place as a key. -/
def klT (p : Int × Int) : Lit := .string (keyBytes [.int .i64 p.1, .int .i64 p.2])

/-- Both numbers are an int's. -/
def Wf (p : Int × Int) : Prop := (Lit.int .i64 p.1).wf = true ∧ (Lit.int .i64 p.2).wf = true

theorem cells_tidS : Try.prog.cellsOf 51 = 2 := by kernel_rfl
theorem cells_intS : Try.prog.cellsOf 3 = 1 := by kernel_rfl

theorem keyLits_tid (d : Nat) {p : Int × Int} (h : Wf p) : Try.prog.keyLits (d + 2) 51 [.int .i64 p.1, .int .i64 p.2] = some [.int .i64 p.1, .int .i64 p.2] := by
  obtain ⟨h1, h2⟩ := h
  have hu := Try.underlying51
  have hi := Try.underlying3
  unfold Program.keyLits
  simp only [hu]
  rw [if_pos ⟨by rw [cells_tidS]; rfl, by kernel_rfl⟩]
  simp only [List.mapM_cons, List.mapM_nil, cells_intS]
  simp [Program.keyLits, hi, h1, h2]

set_option maxRecDepth 100000 in
theorem keyOf_tid {p : Int × Int} (h : Wf p) : keyOf Try.prog 51 (.agg #[.int .i64 p.1, .int .i64 p.2]) = some (klT p) := by
  have hk : Try.prog.keyType 51 = true := by kernel_rfl
  have hu := Try.underlying51
  obtain ⟨m, hm⟩ : ∃ m, Try.prog.types.size + 1 = m + 2 := by
    have h1 : 1 ≤ Try.prog.types.size := of_decide_eq_true (by kernel_rfl)
    generalize Try.prog.types.size = k at h1
    exact ⟨k - 1, by omega⟩
  unfold keyOf
  simp only [hu]
  rw [if_pos (by simp [hk, Value.formed, hu, cells_tidS]), hm]
  simp only [Value.cells]
  rw [keyLits_tid m h]
  rfl

set_option maxRecDepth 100000 in
theorem klT_inj {p q : Int × Int} (hp : Wf p) (hq : Wf q) (h : klT p = klT q) : p = q := by
  have := keyed_tid.inj (keyOf_tid hp) (by rw [h]; exact keyOf_tid hq)
  injection this with this
  injection this with this
  simp at this
  exact Prod.ext this.1 this.2

theorem plainElem_bool_inv {P : Program} {e : TypeId} (he : P.underlying e = some .bool) {v : Value} {z : DataW Unit × List MemPlace} (h : plainElem P e v = some z) : ∃ a, v = .bool a ∧ z = (.lit (.bool a), []) := by
  unfold plainElem at h
  rw [he] at h
  cases v <;> simp at h
  subst h
  exact ⟨_, rfl, rfl⟩

theorem zero_boolS (w : World) : (zeroValue 4).run Try.prog w = .ok (.bool false) w := by kernel_rfl

/-- Block m is a map that holds just the places of l. -/
def SeenAt (w : World) (m : Nat) (l : List (Int × Int)) : Prop :=
  ∃ D : DataW Unit, w.ownsMap Try.prog 51 (plainElem Try.prog 4) m l.length D ∧ IsMap D ∧ ∀ p, Wf p → D.atKey (klT p) (.lit (.bool false)) = .lit (.bool (decide (p ∈ l)))

theorem SeenAt.kept {S : Nat → Prop} {w w' : World} {m : Nat} {l : List (Int × Int)} (h : SeenAt w m l) (ho : Only S w w') (hn : ¬ S m) : SeenAt w' m l := by
  obtain ⟨D, ⟨es, clock, h1, r⟩, h2⟩ := h
  exact ⟨D, ⟨es, clock, ho.get h1 hn, r⟩, h2⟩

theorem SeenAt.lt {w : World} {m : Nat} {l : List (Int × Int)} (h : SeenAt w m l) : m < w.heap.size := by
  obtain ⟨D, h1, _⟩ := h
  exact h1.lt

theorem SeenAt.drewN {w : World} {m : Nat} {l : List (Int × Int)} (h : SeenAt w m l) (n : Nat) : SeenAt (w.drewN n) m l := h.kept ((Only.refl (fun _ => False) w).drewN n) (fun x => x)

theorem seen_made (w : World) : SeenAt (w.alloc (.map #[] 0)) w.heap.size [] :=
  ⟨.map [], World.ownsMap_made _ _ _ _, isMap_empty, fun p _ => rfl⟩

set_option maxRecDepth 100000 in
theorem SeenAt.lookup {w : World} {m : Nat} {l : List (Int × Int)} (h : SeenAt w m l) {p : Int × Int} (hp : Wf p) :
    (Instr.lookup 153 (.map (some m)) (.agg #[.int .i64 p.1, .int .i64 p.2]) false).run Try.prog w = .ok (.bool (decide (p ∈ l))) w := by
  obtain ⟨D, h1, _, h3⟩ := h
  obtain ⟨v, ps, hrun, hv⟩ := h1.lookup keyed_tid Try.underlying153 (zero_boolS w) (plainElem_bool Try.underlying4 false) (keyOf_tid hp)
  rw [h3 p hp] at hv
  obtain ⟨a, rfl, hz⟩ := plainElem_bool_inv Try.underlying4 hv
  injection hz with hz _
  injection hz with hz
  injection hz with hz
  rw [hrun, hz]

set_option maxRecDepth 100000 in
theorem SeenAt.update {w : World} {m : Nat} {l : List (Int × Int)} (h : SeenAt w m l) {p : Int × Int} (hp : Wf p) (hl : l.length < maxLen) :
    ∃ w', (Instr.mapUpdate 153 (.map (some m)) (.agg #[.int .i64 p.1, .int .i64 p.2]) (.bool true)).run Try.prog w = .ok () w' ∧ SeenAt w' m (l ++ [p]) ∧ Only (· = m) w w' := by
  obtain ⟨D, h1, h2, h3⟩ := h
  obtain ⟨w', hrun, ho, hg⟩ := h1.update keyed_tid Try.underlying153 hl (keyOf_tid hp) (plainElem_bool Try.underlying4 true)
  refine ⟨w', hrun, ⟨_, by rw [List.length_append]; exact ho, h2.put _ _, fun q hq => ?_⟩, (Only.refl _ _).byMap hg (fun _ => rfl)⟩
  by_cases e : q = p
  · subst e
    rw [atKey_put_same h2 (keyed_tid.key (keyOf_tid hq))]
    simp
  · rw [atKey_put_other (fun x => e (klT_inj hq hp x)), h3 q hq]
    simp [e]

section
variable {w : World} {ops : Array Oper} {rest : List Oper} {o : Oper} {a : Act} {Q : Exit → Act → World → Prop}

/-- 'seen[p]' at the operation. -/
theorem seen_look {b : Nat} {l : List (Int × Int)} {p : Int × Int} (hg : o.guard = none) (m x : Operand) (hop : o.op = Op.lookup 153 m x false) (hm : a.eval m = .map (some b)) (hx : a.eval x = .agg #[.int .i64 p.1, .int .i64 p.2])
    (h : SeenAt w b l) (hp : Wf p) {r : Bool} (hr : decide (p ∈ l) = r) (hK : wpList Try.prog ops Q rest (a.put o.dst (.bool r)) w) : wpList Try.prog ops Q (o :: rest) a w := by
  refine wpList_plain hg fun K' hK' => ?_
  have hrun := h.lookup hp
  rw [hr] at hrun
  unfold Oper.wp
  simp [execOp, hop, hm, hx, hrun, Result.andThen]
  exact hK' _ _ hK

/-- 'seen[p] = true' at the operation. -/
theorem seen_put {b : Nat} {l : List (Int × Int)} {p : Int × Int} (hg : o.guard = none) (m x v : Operand) (hop : o.op = Op.mapUpdate 153 m x v) (hm : a.eval m = .map (some b)) (hx : a.eval x = .agg #[.int .i64 p.1, .int .i64 p.2]) (hv : a.eval v = .bool true)
    (h : SeenAt w b l) (hp : Wf p) (hl : l.length < maxLen) (hK : ∀ w', SeenAt w' b (l ++ [p]) → Only (· = b) w w' → wpList Try.prog ops Q rest (a.put o.dst undef) w') : wpList Try.prog ops Q (o :: rest) a w := by
  refine wpList_plain hg fun K' hK' => ?_
  obtain ⟨w', hrun, h1, h2⟩ := h.update hp hl
  unfold Oper.wp
  simp [execOp, hop, hm, hx, hv, hrun, Result.andThen]
  exact hK' _ _ (hK w' h1 h2)
end

end Go.Proofs.Ytbibmgcklilpmaa
