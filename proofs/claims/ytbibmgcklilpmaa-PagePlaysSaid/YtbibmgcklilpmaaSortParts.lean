/- page.sound's own sort: the parts by where they begin. No condition. -/
import Derived.Test.YtbibmgcklilpmaaSortRow
import Derived.Test.YtbibmgcklilpmaaSortLay
import Derived.Test.YtbibmgcklilpmaaLoadWalk
namespace Go.Lap

/-- A part whose places are small: the order of a difference is that of the numbers. -/
abbrev Part := { p : Nat × Nat // p.1 < 65536 }
instance : Inhabited Part := ⟨⟨(0, 0), by decide⟩⟩
def partE (x : Part) : List Value := partV x.val
def partC (x y : Part) : Int := (x.val.1 : Int) - (y.val.1 : Int)

theorem part_lt (x y : Part) : Go.Proofs.ltOf partC x y = decide (x.val.1 < y.val.1) := by
  unfold Go.Proofs.ltOf partC
  rw [decide_eq_decide]
  omega

theorem part_swo : Go.Sort.SWO (Go.Proofs.ltOf partC) where
  irrefl x := by rw [part_lt]; simp
  trans x y z h1 h2 := by rw [part_lt] at *; simp at *; omega
  ntrans x y z h1 h2 := by rw [part_lt] at *; simp at *; omega

/-- A list of such parts, as one. -/
theorem part_list : ∀ (P : List (Nat × Nat)), (∀ p ∈ P, p.1 < 65536) → ∃ l : List Part, l.map (·.val) = P
  | [], _ => ⟨[], rfl⟩
  | p :: P, h => by
    obtain ⟨l, hl⟩ := part_list P (fun q hq => h q (List.mem_cons_of_mem _ hq))
    exact ⟨⟨p, h p (List.mem_cons_self ..)⟩ :: l, by simp [hl]⟩

theorem part_cells (l : List Part) : l.flatMap partE = partsV (l.map (·.val)) := by
  unfold partsV partE
  rw [List.flatMap_map]

end Go.Lap
namespace Go.Proofs.Ytbibmgcklilpmaa
open Go.RowKit Go.Lap Go.Sort Go.Shelf

set_option maxHeartbeats 1000000 in
/-- What the sort asks of two parts. -/
theorem part_cmp (x y : Part) (W : World) : Calls Try.prog 105 #[.agg (partE x).toArray, .agg (partE y).toArray] W fun e w' => e = .returned (.int .i64 (partC x y)) ∧ ∃ q os', w' = grow (W.drewN q) os' := by
  obtain ⟨⟨x0, x1⟩, hx⟩ := x
  obtain ⟨⟨y0, y1⟩, hy⟩ := y
  simp only at hx hy
  show Calls Try.prog 105 #[.agg #[.int .i64 (x0 : Int), .int .i64 (x1 : Int)], .agg #[.int .i64 (y0 : Int), .int .i64 (y1 : Int)]] W fun e w' => e = .returned (.int .i64 ((x0 : Int) - (y0 : Int))) ∧ ∃ q os', w' = grow (W.drewN q) os'
  go_enter Try.func105, Try.ntmps105
  go_wp2
  go_ret
  exact ⟨rfl, 0, _, by rw [alloc_eq_grow, alloc_eq_grow, grow_grow]; rfl⟩

/-- The parts sorted. -/
theorem sort_parts (v : Value) (P : List (Nat × Nat)) (w : World) (hown : w.ownsRow 0 171 2 v P.length (partsV P)) (hP : ∀ p ∈ P, p.1 < 65536) (hl : P.length < 65536) :
    Calls Try.prog 104 #[v, .func (.func 105) #[] #[]] w fun e w' => e = .returned (.tuple #[]) ∧ ∃ P' : List (Nat × Nat), P'.Perm P ∧ P'.Pairwise (fun a b => ¬ b.1 < a.1) ∧ w'.ownsRow 0 171 2 v P.length (partsV P') ∧ Only (fun k => v.ownBlock = some k) w w' := by
  obtain ⟨l, rfl⟩ := part_list P hP
  rw [List.length_map] at hl hown
  rw [← part_cells] at hown
  have eg : ∀ args w, (callFunc 105 args).run Try.prog w = .ok (.enter 105 args) w := enters_of Try.func105 (by kernel_rfl) rfl
  have h := sort_own Try.sortParts 2 Try.isAgg171 Try.sizeOf171 partE (fun _ => rfl) (fun x v hv => by simp [partE, partV] at hv; rcases hv with rfl | rfl <;> rfl) partC part_swo 105 eg part_cmp 171 v l w hown (by omega)
  change Calls Try.prog 104 _ _ _ at h
  refine h.mono ?_
  rintro e w' ⟨rfl, l', hp, hs, ho, hon⟩
  refine ⟨rfl, l'.map (·.val), hp.map _, ?_, ?_, hon⟩
  · rw [List.pairwise_map]
    refine hs.imp ?_
    intro a b hab
    rw [part_lt] at hab
    exact of_decide_eq_false hab
  · rw [List.length_map, ← part_cells]
    exact ho
end Go.Proofs.Ytbibmgcklilpmaa
