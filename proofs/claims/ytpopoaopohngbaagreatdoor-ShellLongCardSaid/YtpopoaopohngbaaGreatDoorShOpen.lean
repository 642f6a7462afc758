/- ShellLong: the evaluator's contracts, the law at what the row hands over. No condition. -/
import Derived.Test.YtpopoaopohngbaaGreatDoorShLaw
import Derived.Test.YtpopoaopohngbaaGreatDoorSeatShc
import Derived.Test.YtpopoaopohngbaaGreatDoorOpen
import Derived.Lib.LaidU8
set_option linter.unusedVariables false
set_option linter.unusedSimpArgs false
namespace Go.Proofs.YtpopoaopohngbaaGreatDoor
open Go.RowKit Go.Lap Go.Ev Go.Lib Go.ChangeShapes Go.WideShapes Go.ChangeAt
set_option maxRecDepth 100000

/-- ErrSyntax lies in its cell. -/
theorem err_there {W : World} (hs : W.ShapedOpen Tryz.prog) (hr : VarReads Tryz.prog W "strconv.ErrSyntax" Rows.laid_strconv_ErrSyntax) : ErrThere W := by
  have h3 : (((begin Tryz.prog (fun _ _ => 0) default).world.heap[1]?).bind Obj.row?).map (fun x => (x.1.size, x.2)) = some (1, 37) := by kernel_rfl
  obtain ⟨⟨z, t⟩, hx, hzt⟩ := Option.map_eq_some_iff.1 h3
  simp only [Prod.mk.injEq] at hzt
  obtain ⟨hz1, rfl⟩ := hzt
  have hn : Tryz.prog.globals.size = 10 := by kernel_rfl
  obtain ⟨cs, h1, h2, _⟩ := hs.1 1 z _ (by rw [hn]; omega) hx
  obtain ⟨g', t', cs', fuel, p, k1, k2, k3, k4⟩ := hr
  have hg : Tryz.prog.globalNamed "strconv.ErrSyntax" = some 1 := by kernel_rfl
  rw [hg] at k1; cases k1
  have hty : (Tryz.prog.globals[1]?).map (·.type) = some 37 := by kernel_rfl
  rw [hty] at k2; cases k2
  have : cs' = cs := by
    simp only [World.var?, hg, Option.bind_some, h1, Option.some.injEq] at k3
    exact k3.symm
  subst this
  obtain ⟨v, hv⟩ : ∃ v, cs' = #[v] := Array.size_eq_one_iff.1 (h2.trans hz1)
  subst hv
  cases fuel with
  | zero => simp [DataW.trod] at k4
  | succ f =>
    have hU := Tryz.underlying37
    unfold DataW.trod at k4
    rw [hU] at k4
    cases v with
    | iface u x => exact ⟨u, x, by rw [cell_of h1]; rfl⟩
    | _ => simp [Rows.laid_strconv_ErrSyntax] at k4

/-- what the row's start tells -/
def GlobS (W : World) : Prop := Glob W ∧ ErrThere W
theorem told_of {W : World} (hG : Glob W) : ShTold W :=
  ⟨fun w hq => fault_any (hG.kept hq),
   fun w hq => (new_any (hG.kept hq)).mono (fun e w' ⟨dv, h1, h2, h3⟩ => ⟨⟨dv, h1, h2⟩, h3⟩),
   fun w b s hq hb hx he => (write_any (hG.kept hq) hx (Nat.le_trans hG.low hb) he).mono (fun e w' ⟨h1, h2, h3⟩ => ⟨h1, h3, (string_any h2).mono (fun e w'' ⟨h4, h5⟩ => ⟨h4, h5.mono (fun k _ x => by rcases x with x | x; exact .inl x; exact .inr x.1)⟩)⟩)⟩

theorem shellLong_walk {H : Type} {enc : TypeId × Value → H} {r : Reach} {base : Nat} {d0 : DataW H} {p0 : List MemPlace} (v0 : Value) (W : World) (hG : GlobS W)
    (o0 : Value.okWide Tryz.prog W r base 5 v0) (h0 : DataW.Trod enc Tryz.prog W 0 (fun _ => true) true 5 v0 d0 p0) :
    Calls Tryz.prog 3 #[v0] W fun e w' => e = .returned (.bool true) ∧ Below W.heap.size W w' := by
  obtain ⟨x, rfl, _, _, wx⟩ := open_int Tryz.underlying5 o0 h0
  have hb : 0 ≤ x ∧ x ≤ 255 := bounds_u8 wx
  obtain ⟨n, rfl⟩ : ∃ n : Nat, x = (n : Int) := ⟨x.toNat, by omega⟩
  refine (law_walk (by omega) (awake_any hG.1) hG.2 (told_of hG.1)).mono fun e W' ⟨he, hq⟩ => ⟨he, hq.os, hq.tape, hq.output, hq.size, fun k hk => hq.block k hk (fun x => x)⟩
end Go.Proofs.YtpopoaopohngbaaGreatDoor
