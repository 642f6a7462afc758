/- An evaluator of the model, and why what it tells is so (part 1). No condition. -/
import Derived.Orders
set_option linter.unusedVariables false
set_option linter.unusedSimpArgs false
noncomputable section
namespace Go.Ev

/-- eight of one kind -/
structure E8 (α : Type) : Type where
  (a0 a1 a2 a3 a4 a5 a6 a7 : α)
abbrev F8 (α : Type) : Type := E8 (E8 α)
/-- a place in a row: what stands there, and the row with another one there -/
structure Ac (β α : Type) : Type where
  get : β → α
  set : β → α → β
def Ac.then {γ β α : Type} (A : Ac γ β) (B : Ac β α) : Ac γ α := ⟨fun t => B.get (A.get t), fun t x => A.set t (B.set (A.get t) x)⟩
namespace E8
variable {α : Type}
def s0 (t : E8 α) (x : α) : E8 α := ⟨x, t.a1, t.a2, t.a3, t.a4, t.a5, t.a6, t.a7⟩
def s1 (t : E8 α) (x : α) : E8 α := ⟨t.a0, x, t.a2, t.a3, t.a4, t.a5, t.a6, t.a7⟩
def s2 (t : E8 α) (x : α) : E8 α := ⟨t.a0, t.a1, x, t.a3, t.a4, t.a5, t.a6, t.a7⟩
def s3 (t : E8 α) (x : α) : E8 α := ⟨t.a0, t.a1, t.a2, x, t.a4, t.a5, t.a6, t.a7⟩
def s4 (t : E8 α) (x : α) : E8 α := ⟨t.a0, t.a1, t.a2, t.a3, x, t.a5, t.a6, t.a7⟩
def s5 (t : E8 α) (x : α) : E8 α := ⟨t.a0, t.a1, t.a2, t.a3, t.a4, x, t.a6, t.a7⟩
def s6 (t : E8 α) (x : α) : E8 α := ⟨t.a0, t.a1, t.a2, t.a3, t.a4, t.a5, x, t.a7⟩
def s7 (t : E8 α) (x : α) : E8 α := ⟨t.a0, t.a1, t.a2, t.a3, t.a4, t.a5, t.a6, x⟩
def fg0 (t : F8 α) : α := t.a0.a0
def fs0 (t : F8 α) (x : α) : F8 α := E8.rec (motive := fun _ => F8 α) (fun a0 a1 a2 a3 a4 a5 a6 a7 => ⟨(E8.rec (motive := fun _ => E8 α) (fun b0 b1 b2 b3 b4 b5 b6 b7 => ⟨x, b1, b2, b3, b4, b5, b6, b7⟩) a0), a1, a2, a3, a4, a5, a6, a7⟩) t
def fg1 (t : F8 α) : α := t.a0.a1
def fs1 (t : F8 α) (x : α) : F8 α := E8.rec (motive := fun _ => F8 α) (fun a0 a1 a2 a3 a4 a5 a6 a7 => ⟨(E8.rec (motive := fun _ => E8 α) (fun b0 b1 b2 b3 b4 b5 b6 b7 => ⟨b0, x, b2, b3, b4, b5, b6, b7⟩) a0), a1, a2, a3, a4, a5, a6, a7⟩) t
def fg2 (t : F8 α) : α := t.a0.a2
def fs2 (t : F8 α) (x : α) : F8 α := E8.rec (motive := fun _ => F8 α) (fun a0 a1 a2 a3 a4 a5 a6 a7 => ⟨(E8.rec (motive := fun _ => E8 α) (fun b0 b1 b2 b3 b4 b5 b6 b7 => ⟨b0, b1, x, b3, b4, b5, b6, b7⟩) a0), a1, a2, a3, a4, a5, a6, a7⟩) t
def fg3 (t : F8 α) : α := t.a0.a3
def fs3 (t : F8 α) (x : α) : F8 α := E8.rec (motive := fun _ => F8 α) (fun a0 a1 a2 a3 a4 a5 a6 a7 => ⟨(E8.rec (motive := fun _ => E8 α) (fun b0 b1 b2 b3 b4 b5 b6 b7 => ⟨b0, b1, b2, x, b4, b5, b6, b7⟩) a0), a1, a2, a3, a4, a5, a6, a7⟩) t
def fg4 (t : F8 α) : α := t.a0.a4
def fs4 (t : F8 α) (x : α) : F8 α := E8.rec (motive := fun _ => F8 α) (fun a0 a1 a2 a3 a4 a5 a6 a7 => ⟨(E8.rec (motive := fun _ => E8 α) (fun b0 b1 b2 b3 b4 b5 b6 b7 => ⟨b0, b1, b2, b3, x, b5, b6, b7⟩) a0), a1, a2, a3, a4, a5, a6, a7⟩) t
def fg5 (t : F8 α) : α := t.a0.a5
def fs5 (t : F8 α) (x : α) : F8 α := E8.rec (motive := fun _ => F8 α) (fun a0 a1 a2 a3 a4 a5 a6 a7 => ⟨(E8.rec (motive := fun _ => E8 α) (fun b0 b1 b2 b3 b4 b5 b6 b7 => ⟨b0, b1, b2, b3, b4, x, b6, b7⟩) a0), a1, a2, a3, a4, a5, a6, a7⟩) t
def fg6 (t : F8 α) : α := t.a0.a6
def fs6 (t : F8 α) (x : α) : F8 α := E8.rec (motive := fun _ => F8 α) (fun a0 a1 a2 a3 a4 a5 a6 a7 => ⟨(E8.rec (motive := fun _ => E8 α) (fun b0 b1 b2 b3 b4 b5 b6 b7 => ⟨b0, b1, b2, b3, b4, b5, x, b7⟩) a0), a1, a2, a3, a4, a5, a6, a7⟩) t
def fg7 (t : F8 α) : α := t.a0.a7
def fs7 (t : F8 α) (x : α) : F8 α := E8.rec (motive := fun _ => F8 α) (fun a0 a1 a2 a3 a4 a5 a6 a7 => ⟨(E8.rec (motive := fun _ => E8 α) (fun b0 b1 b2 b3 b4 b5 b6 b7 => ⟨b0, b1, b2, b3, b4, b5, b6, x⟩) a0), a1, a2, a3, a4, a5, a6, a7⟩) t
def fg8 (t : F8 α) : α := t.a1.a0
def fs8 (t : F8 α) (x : α) : F8 α := E8.rec (motive := fun _ => F8 α) (fun a0 a1 a2 a3 a4 a5 a6 a7 => ⟨a0, (E8.rec (motive := fun _ => E8 α) (fun b0 b1 b2 b3 b4 b5 b6 b7 => ⟨x, b1, b2, b3, b4, b5, b6, b7⟩) a1), a2, a3, a4, a5, a6, a7⟩) t
def fg9 (t : F8 α) : α := t.a1.a1
def fs9 (t : F8 α) (x : α) : F8 α := E8.rec (motive := fun _ => F8 α) (fun a0 a1 a2 a3 a4 a5 a6 a7 => ⟨a0, (E8.rec (motive := fun _ => E8 α) (fun b0 b1 b2 b3 b4 b5 b6 b7 => ⟨b0, x, b2, b3, b4, b5, b6, b7⟩) a1), a2, a3, a4, a5, a6, a7⟩) t
def fg10 (t : F8 α) : α := t.a1.a2
def fs10 (t : F8 α) (x : α) : F8 α := E8.rec (motive := fun _ => F8 α) (fun a0 a1 a2 a3 a4 a5 a6 a7 => ⟨a0, (E8.rec (motive := fun _ => E8 α) (fun b0 b1 b2 b3 b4 b5 b6 b7 => ⟨b0, b1, x, b3, b4, b5, b6, b7⟩) a1), a2, a3, a4, a5, a6, a7⟩) t
def fg11 (t : F8 α) : α := t.a1.a3
def fs11 (t : F8 α) (x : α) : F8 α := E8.rec (motive := fun _ => F8 α) (fun a0 a1 a2 a3 a4 a5 a6 a7 => ⟨a0, (E8.rec (motive := fun _ => E8 α) (fun b0 b1 b2 b3 b4 b5 b6 b7 => ⟨b0, b1, b2, x, b4, b5, b6, b7⟩) a1), a2, a3, a4, a5, a6, a7⟩) t
def fg12 (t : F8 α) : α := t.a1.a4
def fs12 (t : F8 α) (x : α) : F8 α := E8.rec (motive := fun _ => F8 α) (fun a0 a1 a2 a3 a4 a5 a6 a7 => ⟨a0, (E8.rec (motive := fun _ => E8 α) (fun b0 b1 b2 b3 b4 b5 b6 b7 => ⟨b0, b1, b2, b3, x, b5, b6, b7⟩) a1), a2, a3, a4, a5, a6, a7⟩) t
def fg13 (t : F8 α) : α := t.a1.a5
def fs13 (t : F8 α) (x : α) : F8 α := E8.rec (motive := fun _ => F8 α) (fun a0 a1 a2 a3 a4 a5 a6 a7 => ⟨a0, (E8.rec (motive := fun _ => E8 α) (fun b0 b1 b2 b3 b4 b5 b6 b7 => ⟨b0, b1, b2, b3, b4, x, b6, b7⟩) a1), a2, a3, a4, a5, a6, a7⟩) t
def fg14 (t : F8 α) : α := t.a1.a6
def fs14 (t : F8 α) (x : α) : F8 α := E8.rec (motive := fun _ => F8 α) (fun a0 a1 a2 a3 a4 a5 a6 a7 => ⟨a0, (E8.rec (motive := fun _ => E8 α) (fun b0 b1 b2 b3 b4 b5 b6 b7 => ⟨b0, b1, b2, b3, b4, b5, x, b7⟩) a1), a2, a3, a4, a5, a6, a7⟩) t
def fg15 (t : F8 α) : α := t.a1.a7
def fs15 (t : F8 α) (x : α) : F8 α := E8.rec (motive := fun _ => F8 α) (fun a0 a1 a2 a3 a4 a5 a6 a7 => ⟨a0, (E8.rec (motive := fun _ => E8 α) (fun b0 b1 b2 b3 b4 b5 b6 b7 => ⟨b0, b1, b2, b3, b4, b5, b6, x⟩) a1), a2, a3, a4, a5, a6, a7⟩) t
def fg16 (t : F8 α) : α := t.a2.a0
def fs16 (t : F8 α) (x : α) : F8 α := E8.rec (motive := fun _ => F8 α) (fun a0 a1 a2 a3 a4 a5 a6 a7 => ⟨a0, a1, (E8.rec (motive := fun _ => E8 α) (fun b0 b1 b2 b3 b4 b5 b6 b7 => ⟨x, b1, b2, b3, b4, b5, b6, b7⟩) a2), a3, a4, a5, a6, a7⟩) t
def fg17 (t : F8 α) : α := t.a2.a1
def fs17 (t : F8 α) (x : α) : F8 α := E8.rec (motive := fun _ => F8 α) (fun a0 a1 a2 a3 a4 a5 a6 a7 => ⟨a0, a1, (E8.rec (motive := fun _ => E8 α) (fun b0 b1 b2 b3 b4 b5 b6 b7 => ⟨b0, x, b2, b3, b4, b5, b6, b7⟩) a2), a3, a4, a5, a6, a7⟩) t
def fg18 (t : F8 α) : α := t.a2.a2
def fs18 (t : F8 α) (x : α) : F8 α := E8.rec (motive := fun _ => F8 α) (fun a0 a1 a2 a3 a4 a5 a6 a7 => ⟨a0, a1, (E8.rec (motive := fun _ => E8 α) (fun b0 b1 b2 b3 b4 b5 b6 b7 => ⟨b0, b1, x, b3, b4, b5, b6, b7⟩) a2), a3, a4, a5, a6, a7⟩) t
def fg19 (t : F8 α) : α := t.a2.a3
def fs19 (t : F8 α) (x : α) : F8 α := E8.rec (motive := fun _ => F8 α) (fun a0 a1 a2 a3 a4 a5 a6 a7 => ⟨a0, a1, (E8.rec (motive := fun _ => E8 α) (fun b0 b1 b2 b3 b4 b5 b6 b7 => ⟨b0, b1, b2, x, b4, b5, b6, b7⟩) a2), a3, a4, a5, a6, a7⟩) t
def fg20 (t : F8 α) : α := t.a2.a4
def fs20 (t : F8 α) (x : α) : F8 α := E8.rec (motive := fun _ => F8 α) (fun a0 a1 a2 a3 a4 a5 a6 a7 => ⟨a0, a1, (E8.rec (motive := fun _ => E8 α) (fun b0 b1 b2 b3 b4 b5 b6 b7 => ⟨b0, b1, b2, b3, x, b5, b6, b7⟩) a2), a3, a4, a5, a6, a7⟩) t
def fg21 (t : F8 α) : α := t.a2.a5
def fs21 (t : F8 α) (x : α) : F8 α := E8.rec (motive := fun _ => F8 α) (fun a0 a1 a2 a3 a4 a5 a6 a7 => ⟨a0, a1, (E8.rec (motive := fun _ => E8 α) (fun b0 b1 b2 b3 b4 b5 b6 b7 => ⟨b0, b1, b2, b3, b4, x, b6, b7⟩) a2), a3, a4, a5, a6, a7⟩) t
def fg22 (t : F8 α) : α := t.a2.a6
def fs22 (t : F8 α) (x : α) : F8 α := E8.rec (motive := fun _ => F8 α) (fun a0 a1 a2 a3 a4 a5 a6 a7 => ⟨a0, a1, (E8.rec (motive := fun _ => E8 α) (fun b0 b1 b2 b3 b4 b5 b6 b7 => ⟨b0, b1, b2, b3, b4, b5, x, b7⟩) a2), a3, a4, a5, a6, a7⟩) t
def fg23 (t : F8 α) : α := t.a2.a7
def fs23 (t : F8 α) (x : α) : F8 α := E8.rec (motive := fun _ => F8 α) (fun a0 a1 a2 a3 a4 a5 a6 a7 => ⟨a0, a1, (E8.rec (motive := fun _ => E8 α) (fun b0 b1 b2 b3 b4 b5 b6 b7 => ⟨b0, b1, b2, b3, b4, b5, b6, x⟩) a2), a3, a4, a5, a6, a7⟩) t
def fg24 (t : F8 α) : α := t.a3.a0
def fs24 (t : F8 α) (x : α) : F8 α := E8.rec (motive := fun _ => F8 α) (fun a0 a1 a2 a3 a4 a5 a6 a7 => ⟨a0, a1, a2, (E8.rec (motive := fun _ => E8 α) (fun b0 b1 b2 b3 b4 b5 b6 b7 => ⟨x, b1, b2, b3, b4, b5, b6, b7⟩) a3), a4, a5, a6, a7⟩) t
def fg25 (t : F8 α) : α := t.a3.a1
def fs25 (t : F8 α) (x : α) : F8 α := E8.rec (motive := fun _ => F8 α) (fun a0 a1 a2 a3 a4 a5 a6 a7 => ⟨a0, a1, a2, (E8.rec (motive := fun _ => E8 α) (fun b0 b1 b2 b3 b4 b5 b6 b7 => ⟨b0, x, b2, b3, b4, b5, b6, b7⟩) a3), a4, a5, a6, a7⟩) t
def fg26 (t : F8 α) : α := t.a3.a2
def fs26 (t : F8 α) (x : α) : F8 α := E8.rec (motive := fun _ => F8 α) (fun a0 a1 a2 a3 a4 a5 a6 a7 => ⟨a0, a1, a2, (E8.rec (motive := fun _ => E8 α) (fun b0 b1 b2 b3 b4 b5 b6 b7 => ⟨b0, b1, x, b3, b4, b5, b6, b7⟩) a3), a4, a5, a6, a7⟩) t
def fg27 (t : F8 α) : α := t.a3.a3
def fs27 (t : F8 α) (x : α) : F8 α := E8.rec (motive := fun _ => F8 α) (fun a0 a1 a2 a3 a4 a5 a6 a7 => ⟨a0, a1, a2, (E8.rec (motive := fun _ => E8 α) (fun b0 b1 b2 b3 b4 b5 b6 b7 => ⟨b0, b1, b2, x, b4, b5, b6, b7⟩) a3), a4, a5, a6, a7⟩) t
def fg28 (t : F8 α) : α := t.a3.a4
def fs28 (t : F8 α) (x : α) : F8 α := E8.rec (motive := fun _ => F8 α) (fun a0 a1 a2 a3 a4 a5 a6 a7 => ⟨a0, a1, a2, (E8.rec (motive := fun _ => E8 α) (fun b0 b1 b2 b3 b4 b5 b6 b7 => ⟨b0, b1, b2, b3, x, b5, b6, b7⟩) a3), a4, a5, a6, a7⟩) t
def fg29 (t : F8 α) : α := t.a3.a5
def fs29 (t : F8 α) (x : α) : F8 α := E8.rec (motive := fun _ => F8 α) (fun a0 a1 a2 a3 a4 a5 a6 a7 => ⟨a0, a1, a2, (E8.rec (motive := fun _ => E8 α) (fun b0 b1 b2 b3 b4 b5 b6 b7 => ⟨b0, b1, b2, b3, b4, x, b6, b7⟩) a3), a4, a5, a6, a7⟩) t
def fg30 (t : F8 α) : α := t.a3.a6
def fs30 (t : F8 α) (x : α) : F8 α := E8.rec (motive := fun _ => F8 α) (fun a0 a1 a2 a3 a4 a5 a6 a7 => ⟨a0, a1, a2, (E8.rec (motive := fun _ => E8 α) (fun b0 b1 b2 b3 b4 b5 b6 b7 => ⟨b0, b1, b2, b3, b4, b5, x, b7⟩) a3), a4, a5, a6, a7⟩) t
def fg31 (t : F8 α) : α := t.a3.a7
def fs31 (t : F8 α) (x : α) : F8 α := E8.rec (motive := fun _ => F8 α) (fun a0 a1 a2 a3 a4 a5 a6 a7 => ⟨a0, a1, a2, (E8.rec (motive := fun _ => E8 α) (fun b0 b1 b2 b3 b4 b5 b6 b7 => ⟨b0, b1, b2, b3, b4, b5, b6, x⟩) a3), a4, a5, a6, a7⟩) t
def fg32 (t : F8 α) : α := t.a4.a0
def fs32 (t : F8 α) (x : α) : F8 α := E8.rec (motive := fun _ => F8 α) (fun a0 a1 a2 a3 a4 a5 a6 a7 => ⟨a0, a1, a2, a3, (E8.rec (motive := fun _ => E8 α) (fun b0 b1 b2 b3 b4 b5 b6 b7 => ⟨x, b1, b2, b3, b4, b5, b6, b7⟩) a4), a5, a6, a7⟩) t
def fg33 (t : F8 α) : α := t.a4.a1
def fs33 (t : F8 α) (x : α) : F8 α := E8.rec (motive := fun _ => F8 α) (fun a0 a1 a2 a3 a4 a5 a6 a7 => ⟨a0, a1, a2, a3, (E8.rec (motive := fun _ => E8 α) (fun b0 b1 b2 b3 b4 b5 b6 b7 => ⟨b0, x, b2, b3, b4, b5, b6, b7⟩) a4), a5, a6, a7⟩) t
def fg34 (t : F8 α) : α := t.a4.a2
def fs34 (t : F8 α) (x : α) : F8 α := E8.rec (motive := fun _ => F8 α) (fun a0 a1 a2 a3 a4 a5 a6 a7 => ⟨a0, a1, a2, a3, (E8.rec (motive := fun _ => E8 α) (fun b0 b1 b2 b3 b4 b5 b6 b7 => ⟨b0, b1, x, b3, b4, b5, b6, b7⟩) a4), a5, a6, a7⟩) t
def fg35 (t : F8 α) : α := t.a4.a3
def fs35 (t : F8 α) (x : α) : F8 α := E8.rec (motive := fun _ => F8 α) (fun a0 a1 a2 a3 a4 a5 a6 a7 => ⟨a0, a1, a2, a3, (E8.rec (motive := fun _ => E8 α) (fun b0 b1 b2 b3 b4 b5 b6 b7 => ⟨b0, b1, b2, x, b4, b5, b6, b7⟩) a4), a5, a6, a7⟩) t
def fg36 (t : F8 α) : α := t.a4.a4
def fs36 (t : F8 α) (x : α) : F8 α := E8.rec (motive := fun _ => F8 α) (fun a0 a1 a2 a3 a4 a5 a6 a7 => ⟨a0, a1, a2, a3, (E8.rec (motive := fun _ => E8 α) (fun b0 b1 b2 b3 b4 b5 b6 b7 => ⟨b0, b1, b2, b3, x, b5, b6, b7⟩) a4), a5, a6, a7⟩) t
def fg37 (t : F8 α) : α := t.a4.a5
def fs37 (t : F8 α) (x : α) : F8 α := E8.rec (motive := fun _ => F8 α) (fun a0 a1 a2 a3 a4 a5 a6 a7 => ⟨a0, a1, a2, a3, (E8.rec (motive := fun _ => E8 α) (fun b0 b1 b2 b3 b4 b5 b6 b7 => ⟨b0, b1, b2, b3, b4, x, b6, b7⟩) a4), a5, a6, a7⟩) t
def fg38 (t : F8 α) : α := t.a4.a6
def fs38 (t : F8 α) (x : α) : F8 α := E8.rec (motive := fun _ => F8 α) (fun a0 a1 a2 a3 a4 a5 a6 a7 => ⟨a0, a1, a2, a3, (E8.rec (motive := fun _ => E8 α) (fun b0 b1 b2 b3 b4 b5 b6 b7 => ⟨b0, b1, b2, b3, b4, b5, x, b7⟩) a4), a5, a6, a7⟩) t
def fg39 (t : F8 α) : α := t.a4.a7
def fs39 (t : F8 α) (x : α) : F8 α := E8.rec (motive := fun _ => F8 α) (fun a0 a1 a2 a3 a4 a5 a6 a7 => ⟨a0, a1, a2, a3, (E8.rec (motive := fun _ => E8 α) (fun b0 b1 b2 b3 b4 b5 b6 b7 => ⟨b0, b1, b2, b3, b4, b5, b6, x⟩) a4), a5, a6, a7⟩) t
def fg40 (t : F8 α) : α := t.a5.a0
def fs40 (t : F8 α) (x : α) : F8 α := E8.rec (motive := fun _ => F8 α) (fun a0 a1 a2 a3 a4 a5 a6 a7 => ⟨a0, a1, a2, a3, a4, (E8.rec (motive := fun _ => E8 α) (fun b0 b1 b2 b3 b4 b5 b6 b7 => ⟨x, b1, b2, b3, b4, b5, b6, b7⟩) a5), a6, a7⟩) t
def fg41 (t : F8 α) : α := t.a5.a1
def fs41 (t : F8 α) (x : α) : F8 α := E8.rec (motive := fun _ => F8 α) (fun a0 a1 a2 a3 a4 a5 a6 a7 => ⟨a0, a1, a2, a3, a4, (E8.rec (motive := fun _ => E8 α) (fun b0 b1 b2 b3 b4 b5 b6 b7 => ⟨b0, x, b2, b3, b4, b5, b6, b7⟩) a5), a6, a7⟩) t
def fg42 (t : F8 α) : α := t.a5.a2
def fs42 (t : F8 α) (x : α) : F8 α := E8.rec (motive := fun _ => F8 α) (fun a0 a1 a2 a3 a4 a5 a6 a7 => ⟨a0, a1, a2, a3, a4, (E8.rec (motive := fun _ => E8 α) (fun b0 b1 b2 b3 b4 b5 b6 b7 => ⟨b0, b1, x, b3, b4, b5, b6, b7⟩) a5), a6, a7⟩) t
def fg43 (t : F8 α) : α := t.a5.a3
def fs43 (t : F8 α) (x : α) : F8 α := E8.rec (motive := fun _ => F8 α) (fun a0 a1 a2 a3 a4 a5 a6 a7 => ⟨a0, a1, a2, a3, a4, (E8.rec (motive := fun _ => E8 α) (fun b0 b1 b2 b3 b4 b5 b6 b7 => ⟨b0, b1, b2, x, b4, b5, b6, b7⟩) a5), a6, a7⟩) t
def fg44 (t : F8 α) : α := t.a5.a4
def fs44 (t : F8 α) (x : α) : F8 α := E8.rec (motive := fun _ => F8 α) (fun a0 a1 a2 a3 a4 a5 a6 a7 => ⟨a0, a1, a2, a3, a4, (E8.rec (motive := fun _ => E8 α) (fun b0 b1 b2 b3 b4 b5 b6 b7 => ⟨b0, b1, b2, b3, x, b5, b6, b7⟩) a5), a6, a7⟩) t
def fg45 (t : F8 α) : α := t.a5.a5
def fs45 (t : F8 α) (x : α) : F8 α := E8.rec (motive := fun _ => F8 α) (fun a0 a1 a2 a3 a4 a5 a6 a7 => ⟨a0, a1, a2, a3, a4, (E8.rec (motive := fun _ => E8 α) (fun b0 b1 b2 b3 b4 b5 b6 b7 => ⟨b0, b1, b2, b3, b4, x, b6, b7⟩) a5), a6, a7⟩) t
def fg46 (t : F8 α) : α := t.a5.a6
def fs46 (t : F8 α) (x : α) : F8 α := E8.rec (motive := fun _ => F8 α) (fun a0 a1 a2 a3 a4 a5 a6 a7 => ⟨a0, a1, a2, a3, a4, (E8.rec (motive := fun _ => E8 α) (fun b0 b1 b2 b3 b4 b5 b6 b7 => ⟨b0, b1, b2, b3, b4, b5, x, b7⟩) a5), a6, a7⟩) t
def fg47 (t : F8 α) : α := t.a5.a7
def fs47 (t : F8 α) (x : α) : F8 α := E8.rec (motive := fun _ => F8 α) (fun a0 a1 a2 a3 a4 a5 a6 a7 => ⟨a0, a1, a2, a3, a4, (E8.rec (motive := fun _ => E8 α) (fun b0 b1 b2 b3 b4 b5 b6 b7 => ⟨b0, b1, b2, b3, b4, b5, b6, x⟩) a5), a6, a7⟩) t
def fg48 (t : F8 α) : α := t.a6.a0
def fs48 (t : F8 α) (x : α) : F8 α := E8.rec (motive := fun _ => F8 α) (fun a0 a1 a2 a3 a4 a5 a6 a7 => ⟨a0, a1, a2, a3, a4, a5, (E8.rec (motive := fun _ => E8 α) (fun b0 b1 b2 b3 b4 b5 b6 b7 => ⟨x, b1, b2, b3, b4, b5, b6, b7⟩) a6), a7⟩) t
def fg49 (t : F8 α) : α := t.a6.a1
def fs49 (t : F8 α) (x : α) : F8 α := E8.rec (motive := fun _ => F8 α) (fun a0 a1 a2 a3 a4 a5 a6 a7 => ⟨a0, a1, a2, a3, a4, a5, (E8.rec (motive := fun _ => E8 α) (fun b0 b1 b2 b3 b4 b5 b6 b7 => ⟨b0, x, b2, b3, b4, b5, b6, b7⟩) a6), a7⟩) t
def fg50 (t : F8 α) : α := t.a6.a2
def fs50 (t : F8 α) (x : α) : F8 α := E8.rec (motive := fun _ => F8 α) (fun a0 a1 a2 a3 a4 a5 a6 a7 => ⟨a0, a1, a2, a3, a4, a5, (E8.rec (motive := fun _ => E8 α) (fun b0 b1 b2 b3 b4 b5 b6 b7 => ⟨b0, b1, x, b3, b4, b5, b6, b7⟩) a6), a7⟩) t
def fg51 (t : F8 α) : α := t.a6.a3
def fs51 (t : F8 α) (x : α) : F8 α := E8.rec (motive := fun _ => F8 α) (fun a0 a1 a2 a3 a4 a5 a6 a7 => ⟨a0, a1, a2, a3, a4, a5, (E8.rec (motive := fun _ => E8 α) (fun b0 b1 b2 b3 b4 b5 b6 b7 => ⟨b0, b1, b2, x, b4, b5, b6, b7⟩) a6), a7⟩) t
def fg52 (t : F8 α) : α := t.a6.a4
def fs52 (t : F8 α) (x : α) : F8 α := E8.rec (motive := fun _ => F8 α) (fun a0 a1 a2 a3 a4 a5 a6 a7 => ⟨a0, a1, a2, a3, a4, a5, (E8.rec (motive := fun _ => E8 α) (fun b0 b1 b2 b3 b4 b5 b6 b7 => ⟨b0, b1, b2, b3, x, b5, b6, b7⟩) a6), a7⟩) t
def fg53 (t : F8 α) : α := t.a6.a5
def fs53 (t : F8 α) (x : α) : F8 α := E8.rec (motive := fun _ => F8 α) (fun a0 a1 a2 a3 a4 a5 a6 a7 => ⟨a0, a1, a2, a3, a4, a5, (E8.rec (motive := fun _ => E8 α) (fun b0 b1 b2 b3 b4 b5 b6 b7 => ⟨b0, b1, b2, b3, b4, x, b6, b7⟩) a6), a7⟩) t
def fg54 (t : F8 α) : α := t.a6.a6
def fs54 (t : F8 α) (x : α) : F8 α := E8.rec (motive := fun _ => F8 α) (fun a0 a1 a2 a3 a4 a5 a6 a7 => ⟨a0, a1, a2, a3, a4, a5, (E8.rec (motive := fun _ => E8 α) (fun b0 b1 b2 b3 b4 b5 b6 b7 => ⟨b0, b1, b2, b3, b4, b5, x, b7⟩) a6), a7⟩) t
def fg55 (t : F8 α) : α := t.a6.a7
def fs55 (t : F8 α) (x : α) : F8 α := E8.rec (motive := fun _ => F8 α) (fun a0 a1 a2 a3 a4 a5 a6 a7 => ⟨a0, a1, a2, a3, a4, a5, (E8.rec (motive := fun _ => E8 α) (fun b0 b1 b2 b3 b4 b5 b6 b7 => ⟨b0, b1, b2, b3, b4, b5, b6, x⟩) a6), a7⟩) t
def fg56 (t : F8 α) : α := t.a7.a0
def fs56 (t : F8 α) (x : α) : F8 α := E8.rec (motive := fun _ => F8 α) (fun a0 a1 a2 a3 a4 a5 a6 a7 => ⟨a0, a1, a2, a3, a4, a5, a6, (E8.rec (motive := fun _ => E8 α) (fun b0 b1 b2 b3 b4 b5 b6 b7 => ⟨x, b1, b2, b3, b4, b5, b6, b7⟩) a7)⟩) t
def fg57 (t : F8 α) : α := t.a7.a1
def fs57 (t : F8 α) (x : α) : F8 α := E8.rec (motive := fun _ => F8 α) (fun a0 a1 a2 a3 a4 a5 a6 a7 => ⟨a0, a1, a2, a3, a4, a5, a6, (E8.rec (motive := fun _ => E8 α) (fun b0 b1 b2 b3 b4 b5 b6 b7 => ⟨b0, x, b2, b3, b4, b5, b6, b7⟩) a7)⟩) t
def fg58 (t : F8 α) : α := t.a7.a2
def fs58 (t : F8 α) (x : α) : F8 α := E8.rec (motive := fun _ => F8 α) (fun a0 a1 a2 a3 a4 a5 a6 a7 => ⟨a0, a1, a2, a3, a4, a5, a6, (E8.rec (motive := fun _ => E8 α) (fun b0 b1 b2 b3 b4 b5 b6 b7 => ⟨b0, b1, x, b3, b4, b5, b6, b7⟩) a7)⟩) t
def fg59 (t : F8 α) : α := t.a7.a3
def fs59 (t : F8 α) (x : α) : F8 α := E8.rec (motive := fun _ => F8 α) (fun a0 a1 a2 a3 a4 a5 a6 a7 => ⟨a0, a1, a2, a3, a4, a5, a6, (E8.rec (motive := fun _ => E8 α) (fun b0 b1 b2 b3 b4 b5 b6 b7 => ⟨b0, b1, b2, x, b4, b5, b6, b7⟩) a7)⟩) t
def fg60 (t : F8 α) : α := t.a7.a4
def fs60 (t : F8 α) (x : α) : F8 α := E8.rec (motive := fun _ => F8 α) (fun a0 a1 a2 a3 a4 a5 a6 a7 => ⟨a0, a1, a2, a3, a4, a5, a6, (E8.rec (motive := fun _ => E8 α) (fun b0 b1 b2 b3 b4 b5 b6 b7 => ⟨b0, b1, b2, b3, x, b5, b6, b7⟩) a7)⟩) t
def fg61 (t : F8 α) : α := t.a7.a5
def fs61 (t : F8 α) (x : α) : F8 α := E8.rec (motive := fun _ => F8 α) (fun a0 a1 a2 a3 a4 a5 a6 a7 => ⟨a0, a1, a2, a3, a4, a5, a6, (E8.rec (motive := fun _ => E8 α) (fun b0 b1 b2 b3 b4 b5 b6 b7 => ⟨b0, b1, b2, b3, b4, x, b6, b7⟩) a7)⟩) t
def fg62 (t : F8 α) : α := t.a7.a6
def fs62 (t : F8 α) (x : α) : F8 α := E8.rec (motive := fun _ => F8 α) (fun a0 a1 a2 a3 a4 a5 a6 a7 => ⟨a0, a1, a2, a3, a4, a5, a6, (E8.rec (motive := fun _ => E8 α) (fun b0 b1 b2 b3 b4 b5 b6 b7 => ⟨b0, b1, b2, b3, b4, b5, x, b7⟩) a7)⟩) t
def fg63 (t : F8 α) : α := t.a7.a7
def fs63 (t : F8 α) (x : α) : F8 α := E8.rec (motive := fun _ => F8 α) (fun a0 a1 a2 a3 a4 a5 a6 a7 => ⟨a0, a1, a2, a3, a4, a5, a6, (E8.rec (motive := fun _ => E8 α) (fun b0 b1 b2 b3 b4 b5 b6 b7 => ⟨b0, b1, b2, b3, b4, b5, b6, x⟩) a7)⟩) t
/-- the place i of eight, of sixty-four: told to what follows -/
def k8 {R : Type} (i : Nat) (k : (E8 α → α) → (E8 α → α → E8 α) → R) : R := (Bool.rec (motive := fun _ => R) (Bool.rec (motive := fun _ => R) (Bool.rec (motive := fun _ => R) (k a7 s7) (k a6 s6) (Nat.ble (Nat.succ i) 7)) (Bool.rec (motive := fun _ => R) (k a5 s5) (k a4 s4) (Nat.ble (Nat.succ i) 5)) (Nat.ble (Nat.succ i) 6)) (Bool.rec (motive := fun _ => R) (Bool.rec (motive := fun _ => R) (k a3 s3) (k a2 s2) (Nat.ble (Nat.succ i) 3)) (Bool.rec (motive := fun _ => R) (k a1 s1) (k a0 s0) (Nat.ble (Nat.succ i) 1)) (Nat.ble (Nat.succ i) 2)) (Nat.ble (Nat.succ i) 4))
/-- the place i of sixty-four: found step by step, each a constant of its own (what isn't met is not laid out) -/
def c64_0 (α : Type) : Ac (F8 α) α := ⟨fg0, fs0⟩
def c64_1 (α : Type) : Ac (F8 α) α := ⟨fg1, fs1⟩
def c64_2 (α : Type) : Ac (F8 α) α := ⟨fg2, fs2⟩
def c64_3 (α : Type) : Ac (F8 α) α := ⟨fg3, fs3⟩
def c64_4 (α : Type) : Ac (F8 α) α := ⟨fg4, fs4⟩
def c64_5 (α : Type) : Ac (F8 α) α := ⟨fg5, fs5⟩
def c64_6 (α : Type) : Ac (F8 α) α := ⟨fg6, fs6⟩
def c64_7 (α : Type) : Ac (F8 α) α := ⟨fg7, fs7⟩
def c64_8 (α : Type) : Ac (F8 α) α := ⟨fg8, fs8⟩
def c64_9 (α : Type) : Ac (F8 α) α := ⟨fg9, fs9⟩
def c64_10 (α : Type) : Ac (F8 α) α := ⟨fg10, fs10⟩
def c64_11 (α : Type) : Ac (F8 α) α := ⟨fg11, fs11⟩
def c64_12 (α : Type) : Ac (F8 α) α := ⟨fg12, fs12⟩
def c64_13 (α : Type) : Ac (F8 α) α := ⟨fg13, fs13⟩
def c64_14 (α : Type) : Ac (F8 α) α := ⟨fg14, fs14⟩
def c64_15 (α : Type) : Ac (F8 α) α := ⟨fg15, fs15⟩
def c64_16 (α : Type) : Ac (F8 α) α := ⟨fg16, fs16⟩
def c64_17 (α : Type) : Ac (F8 α) α := ⟨fg17, fs17⟩
def c64_18 (α : Type) : Ac (F8 α) α := ⟨fg18, fs18⟩
def c64_19 (α : Type) : Ac (F8 α) α := ⟨fg19, fs19⟩
def c64_20 (α : Type) : Ac (F8 α) α := ⟨fg20, fs20⟩
def c64_21 (α : Type) : Ac (F8 α) α := ⟨fg21, fs21⟩
def c64_22 (α : Type) : Ac (F8 α) α := ⟨fg22, fs22⟩
def c64_23 (α : Type) : Ac (F8 α) α := ⟨fg23, fs23⟩
def c64_24 (α : Type) : Ac (F8 α) α := ⟨fg24, fs24⟩
def c64_25 (α : Type) : Ac (F8 α) α := ⟨fg25, fs25⟩
def c64_26 (α : Type) : Ac (F8 α) α := ⟨fg26, fs26⟩
def c64_27 (α : Type) : Ac (F8 α) α := ⟨fg27, fs27⟩
def c64_28 (α : Type) : Ac (F8 α) α := ⟨fg28, fs28⟩
def c64_29 (α : Type) : Ac (F8 α) α := ⟨fg29, fs29⟩
def c64_30 (α : Type) : Ac (F8 α) α := ⟨fg30, fs30⟩
def c64_31 (α : Type) : Ac (F8 α) α := ⟨fg31, fs31⟩
def c64_32 (α : Type) : Ac (F8 α) α := ⟨fg32, fs32⟩
def c64_33 (α : Type) : Ac (F8 α) α := ⟨fg33, fs33⟩
def c64_34 (α : Type) : Ac (F8 α) α := ⟨fg34, fs34⟩
def c64_35 (α : Type) : Ac (F8 α) α := ⟨fg35, fs35⟩
def c64_36 (α : Type) : Ac (F8 α) α := ⟨fg36, fs36⟩
def c64_37 (α : Type) : Ac (F8 α) α := ⟨fg37, fs37⟩
def c64_38 (α : Type) : Ac (F8 α) α := ⟨fg38, fs38⟩
def c64_39 (α : Type) : Ac (F8 α) α := ⟨fg39, fs39⟩
def c64_40 (α : Type) : Ac (F8 α) α := ⟨fg40, fs40⟩
def c64_41 (α : Type) : Ac (F8 α) α := ⟨fg41, fs41⟩
def c64_42 (α : Type) : Ac (F8 α) α := ⟨fg42, fs42⟩
def c64_43 (α : Type) : Ac (F8 α) α := ⟨fg43, fs43⟩
def c64_44 (α : Type) : Ac (F8 α) α := ⟨fg44, fs44⟩
def c64_45 (α : Type) : Ac (F8 α) α := ⟨fg45, fs45⟩
def c64_46 (α : Type) : Ac (F8 α) α := ⟨fg46, fs46⟩
def c64_47 (α : Type) : Ac (F8 α) α := ⟨fg47, fs47⟩
def c64_48 (α : Type) : Ac (F8 α) α := ⟨fg48, fs48⟩
def c64_49 (α : Type) : Ac (F8 α) α := ⟨fg49, fs49⟩
def c64_50 (α : Type) : Ac (F8 α) α := ⟨fg50, fs50⟩
def c64_51 (α : Type) : Ac (F8 α) α := ⟨fg51, fs51⟩
def c64_52 (α : Type) : Ac (F8 α) α := ⟨fg52, fs52⟩
def c64_53 (α : Type) : Ac (F8 α) α := ⟨fg53, fs53⟩
def c64_54 (α : Type) : Ac (F8 α) α := ⟨fg54, fs54⟩
def c64_55 (α : Type) : Ac (F8 α) α := ⟨fg55, fs55⟩
def c64_56 (α : Type) : Ac (F8 α) α := ⟨fg56, fs56⟩
def c64_57 (α : Type) : Ac (F8 α) α := ⟨fg57, fs57⟩
def c64_58 (α : Type) : Ac (F8 α) α := ⟨fg58, fs58⟩
def c64_59 (α : Type) : Ac (F8 α) α := ⟨fg59, fs59⟩
def c64_60 (α : Type) : Ac (F8 α) α := ⟨fg60, fs60⟩
def c64_61 (α : Type) : Ac (F8 α) α := ⟨fg61, fs61⟩
def c64_62 (α : Type) : Ac (F8 α) α := ⟨fg62, fs62⟩
def c64_63 (α : Type) : Ac (F8 α) α := ⟨fg63, fs63⟩
def t64_0_2 (α : Type) (i : Nat) : Ac (F8 α) α := Bool.rec (motive := fun _ => Ac (F8 α) α) (c64_1 α) (c64_0 α) (Nat.ble (Nat.succ i) 1)
def t64_2_4 (α : Type) (i : Nat) : Ac (F8 α) α := Bool.rec (motive := fun _ => Ac (F8 α) α) (c64_3 α) (c64_2 α) (Nat.ble (Nat.succ i) 3)
def t64_0_4 (α : Type) (i : Nat) : Ac (F8 α) α := Bool.rec (motive := fun _ => Ac (F8 α) α) (t64_2_4 α i) (t64_0_2 α i) (Nat.ble (Nat.succ i) 2)
def t64_4_6 (α : Type) (i : Nat) : Ac (F8 α) α := Bool.rec (motive := fun _ => Ac (F8 α) α) (c64_5 α) (c64_4 α) (Nat.ble (Nat.succ i) 5)
def t64_6_8 (α : Type) (i : Nat) : Ac (F8 α) α := Bool.rec (motive := fun _ => Ac (F8 α) α) (c64_7 α) (c64_6 α) (Nat.ble (Nat.succ i) 7)
def t64_4_8 (α : Type) (i : Nat) : Ac (F8 α) α := Bool.rec (motive := fun _ => Ac (F8 α) α) (t64_6_8 α i) (t64_4_6 α i) (Nat.ble (Nat.succ i) 6)
def t64_0_8 (α : Type) (i : Nat) : Ac (F8 α) α := Bool.rec (motive := fun _ => Ac (F8 α) α) (t64_4_8 α i) (t64_0_4 α i) (Nat.ble (Nat.succ i) 4)
def t64_8_10 (α : Type) (i : Nat) : Ac (F8 α) α := Bool.rec (motive := fun _ => Ac (F8 α) α) (c64_9 α) (c64_8 α) (Nat.ble (Nat.succ i) 9)
def t64_10_12 (α : Type) (i : Nat) : Ac (F8 α) α := Bool.rec (motive := fun _ => Ac (F8 α) α) (c64_11 α) (c64_10 α) (Nat.ble (Nat.succ i) 11)
def t64_8_12 (α : Type) (i : Nat) : Ac (F8 α) α := Bool.rec (motive := fun _ => Ac (F8 α) α) (t64_10_12 α i) (t64_8_10 α i) (Nat.ble (Nat.succ i) 10)
def t64_12_14 (α : Type) (i : Nat) : Ac (F8 α) α := Bool.rec (motive := fun _ => Ac (F8 α) α) (c64_13 α) (c64_12 α) (Nat.ble (Nat.succ i) 13)
def t64_14_16 (α : Type) (i : Nat) : Ac (F8 α) α := Bool.rec (motive := fun _ => Ac (F8 α) α) (c64_15 α) (c64_14 α) (Nat.ble (Nat.succ i) 15)
def t64_12_16 (α : Type) (i : Nat) : Ac (F8 α) α := Bool.rec (motive := fun _ => Ac (F8 α) α) (t64_14_16 α i) (t64_12_14 α i) (Nat.ble (Nat.succ i) 14)
def t64_8_16 (α : Type) (i : Nat) : Ac (F8 α) α := Bool.rec (motive := fun _ => Ac (F8 α) α) (t64_12_16 α i) (t64_8_12 α i) (Nat.ble (Nat.succ i) 12)
def t64_0_16 (α : Type) (i : Nat) : Ac (F8 α) α := Bool.rec (motive := fun _ => Ac (F8 α) α) (t64_8_16 α i) (t64_0_8 α i) (Nat.ble (Nat.succ i) 8)
def t64_16_18 (α : Type) (i : Nat) : Ac (F8 α) α := Bool.rec (motive := fun _ => Ac (F8 α) α) (c64_17 α) (c64_16 α) (Nat.ble (Nat.succ i) 17)
def t64_18_20 (α : Type) (i : Nat) : Ac (F8 α) α := Bool.rec (motive := fun _ => Ac (F8 α) α) (c64_19 α) (c64_18 α) (Nat.ble (Nat.succ i) 19)
def t64_16_20 (α : Type) (i : Nat) : Ac (F8 α) α := Bool.rec (motive := fun _ => Ac (F8 α) α) (t64_18_20 α i) (t64_16_18 α i) (Nat.ble (Nat.succ i) 18)
def t64_20_22 (α : Type) (i : Nat) : Ac (F8 α) α := Bool.rec (motive := fun _ => Ac (F8 α) α) (c64_21 α) (c64_20 α) (Nat.ble (Nat.succ i) 21)
def t64_22_24 (α : Type) (i : Nat) : Ac (F8 α) α := Bool.rec (motive := fun _ => Ac (F8 α) α) (c64_23 α) (c64_22 α) (Nat.ble (Nat.succ i) 23)
def t64_20_24 (α : Type) (i : Nat) : Ac (F8 α) α := Bool.rec (motive := fun _ => Ac (F8 α) α) (t64_22_24 α i) (t64_20_22 α i) (Nat.ble (Nat.succ i) 22)
def t64_16_24 (α : Type) (i : Nat) : Ac (F8 α) α := Bool.rec (motive := fun _ => Ac (F8 α) α) (t64_20_24 α i) (t64_16_20 α i) (Nat.ble (Nat.succ i) 20)
def t64_24_26 (α : Type) (i : Nat) : Ac (F8 α) α := Bool.rec (motive := fun _ => Ac (F8 α) α) (c64_25 α) (c64_24 α) (Nat.ble (Nat.succ i) 25)
def t64_26_28 (α : Type) (i : Nat) : Ac (F8 α) α := Bool.rec (motive := fun _ => Ac (F8 α) α) (c64_27 α) (c64_26 α) (Nat.ble (Nat.succ i) 27)
def t64_24_28 (α : Type) (i : Nat) : Ac (F8 α) α := Bool.rec (motive := fun _ => Ac (F8 α) α) (t64_26_28 α i) (t64_24_26 α i) (Nat.ble (Nat.succ i) 26)
def t64_28_30 (α : Type) (i : Nat) : Ac (F8 α) α := Bool.rec (motive := fun _ => Ac (F8 α) α) (c64_29 α) (c64_28 α) (Nat.ble (Nat.succ i) 29)
def t64_30_32 (α : Type) (i : Nat) : Ac (F8 α) α := Bool.rec (motive := fun _ => Ac (F8 α) α) (c64_31 α) (c64_30 α) (Nat.ble (Nat.succ i) 31)
def t64_28_32 (α : Type) (i : Nat) : Ac (F8 α) α := Bool.rec (motive := fun _ => Ac (F8 α) α) (t64_30_32 α i) (t64_28_30 α i) (Nat.ble (Nat.succ i) 30)
def t64_24_32 (α : Type) (i : Nat) : Ac (F8 α) α := Bool.rec (motive := fun _ => Ac (F8 α) α) (t64_28_32 α i) (t64_24_28 α i) (Nat.ble (Nat.succ i) 28)
def t64_16_32 (α : Type) (i : Nat) : Ac (F8 α) α := Bool.rec (motive := fun _ => Ac (F8 α) α) (t64_24_32 α i) (t64_16_24 α i) (Nat.ble (Nat.succ i) 24)
def t64_0_32 (α : Type) (i : Nat) : Ac (F8 α) α := Bool.rec (motive := fun _ => Ac (F8 α) α) (t64_16_32 α i) (t64_0_16 α i) (Nat.ble (Nat.succ i) 16)
def t64_32_34 (α : Type) (i : Nat) : Ac (F8 α) α := Bool.rec (motive := fun _ => Ac (F8 α) α) (c64_33 α) (c64_32 α) (Nat.ble (Nat.succ i) 33)
def t64_34_36 (α : Type) (i : Nat) : Ac (F8 α) α := Bool.rec (motive := fun _ => Ac (F8 α) α) (c64_35 α) (c64_34 α) (Nat.ble (Nat.succ i) 35)
def t64_32_36 (α : Type) (i : Nat) : Ac (F8 α) α := Bool.rec (motive := fun _ => Ac (F8 α) α) (t64_34_36 α i) (t64_32_34 α i) (Nat.ble (Nat.succ i) 34)
def t64_36_38 (α : Type) (i : Nat) : Ac (F8 α) α := Bool.rec (motive := fun _ => Ac (F8 α) α) (c64_37 α) (c64_36 α) (Nat.ble (Nat.succ i) 37)
def t64_38_40 (α : Type) (i : Nat) : Ac (F8 α) α := Bool.rec (motive := fun _ => Ac (F8 α) α) (c64_39 α) (c64_38 α) (Nat.ble (Nat.succ i) 39)
def t64_36_40 (α : Type) (i : Nat) : Ac (F8 α) α := Bool.rec (motive := fun _ => Ac (F8 α) α) (t64_38_40 α i) (t64_36_38 α i) (Nat.ble (Nat.succ i) 38)
def t64_32_40 (α : Type) (i : Nat) : Ac (F8 α) α := Bool.rec (motive := fun _ => Ac (F8 α) α) (t64_36_40 α i) (t64_32_36 α i) (Nat.ble (Nat.succ i) 36)
def t64_40_42 (α : Type) (i : Nat) : Ac (F8 α) α := Bool.rec (motive := fun _ => Ac (F8 α) α) (c64_41 α) (c64_40 α) (Nat.ble (Nat.succ i) 41)
def t64_42_44 (α : Type) (i : Nat) : Ac (F8 α) α := Bool.rec (motive := fun _ => Ac (F8 α) α) (c64_43 α) (c64_42 α) (Nat.ble (Nat.succ i) 43)
def t64_40_44 (α : Type) (i : Nat) : Ac (F8 α) α := Bool.rec (motive := fun _ => Ac (F8 α) α) (t64_42_44 α i) (t64_40_42 α i) (Nat.ble (Nat.succ i) 42)
def t64_44_46 (α : Type) (i : Nat) : Ac (F8 α) α := Bool.rec (motive := fun _ => Ac (F8 α) α) (c64_45 α) (c64_44 α) (Nat.ble (Nat.succ i) 45)
def t64_46_48 (α : Type) (i : Nat) : Ac (F8 α) α := Bool.rec (motive := fun _ => Ac (F8 α) α) (c64_47 α) (c64_46 α) (Nat.ble (Nat.succ i) 47)
def t64_44_48 (α : Type) (i : Nat) : Ac (F8 α) α := Bool.rec (motive := fun _ => Ac (F8 α) α) (t64_46_48 α i) (t64_44_46 α i) (Nat.ble (Nat.succ i) 46)
def t64_40_48 (α : Type) (i : Nat) : Ac (F8 α) α := Bool.rec (motive := fun _ => Ac (F8 α) α) (t64_44_48 α i) (t64_40_44 α i) (Nat.ble (Nat.succ i) 44)
def t64_32_48 (α : Type) (i : Nat) : Ac (F8 α) α := Bool.rec (motive := fun _ => Ac (F8 α) α) (t64_40_48 α i) (t64_32_40 α i) (Nat.ble (Nat.succ i) 40)
def t64_48_50 (α : Type) (i : Nat) : Ac (F8 α) α := Bool.rec (motive := fun _ => Ac (F8 α) α) (c64_49 α) (c64_48 α) (Nat.ble (Nat.succ i) 49)
def t64_50_52 (α : Type) (i : Nat) : Ac (F8 α) α := Bool.rec (motive := fun _ => Ac (F8 α) α) (c64_51 α) (c64_50 α) (Nat.ble (Nat.succ i) 51)
def t64_48_52 (α : Type) (i : Nat) : Ac (F8 α) α := Bool.rec (motive := fun _ => Ac (F8 α) α) (t64_50_52 α i) (t64_48_50 α i) (Nat.ble (Nat.succ i) 50)
def t64_52_54 (α : Type) (i : Nat) : Ac (F8 α) α := Bool.rec (motive := fun _ => Ac (F8 α) α) (c64_53 α) (c64_52 α) (Nat.ble (Nat.succ i) 53)
def t64_54_56 (α : Type) (i : Nat) : Ac (F8 α) α := Bool.rec (motive := fun _ => Ac (F8 α) α) (c64_55 α) (c64_54 α) (Nat.ble (Nat.succ i) 55)
def t64_52_56 (α : Type) (i : Nat) : Ac (F8 α) α := Bool.rec (motive := fun _ => Ac (F8 α) α) (t64_54_56 α i) (t64_52_54 α i) (Nat.ble (Nat.succ i) 54)
def t64_48_56 (α : Type) (i : Nat) : Ac (F8 α) α := Bool.rec (motive := fun _ => Ac (F8 α) α) (t64_52_56 α i) (t64_48_52 α i) (Nat.ble (Nat.succ i) 52)
def t64_56_58 (α : Type) (i : Nat) : Ac (F8 α) α := Bool.rec (motive := fun _ => Ac (F8 α) α) (c64_57 α) (c64_56 α) (Nat.ble (Nat.succ i) 57)
def t64_58_60 (α : Type) (i : Nat) : Ac (F8 α) α := Bool.rec (motive := fun _ => Ac (F8 α) α) (c64_59 α) (c64_58 α) (Nat.ble (Nat.succ i) 59)
def t64_56_60 (α : Type) (i : Nat) : Ac (F8 α) α := Bool.rec (motive := fun _ => Ac (F8 α) α) (t64_58_60 α i) (t64_56_58 α i) (Nat.ble (Nat.succ i) 58)
def t64_60_62 (α : Type) (i : Nat) : Ac (F8 α) α := Bool.rec (motive := fun _ => Ac (F8 α) α) (c64_61 α) (c64_60 α) (Nat.ble (Nat.succ i) 61)
def t64_62_64 (α : Type) (i : Nat) : Ac (F8 α) α := Bool.rec (motive := fun _ => Ac (F8 α) α) (c64_63 α) (c64_62 α) (Nat.ble (Nat.succ i) 63)
def t64_60_64 (α : Type) (i : Nat) : Ac (F8 α) α := Bool.rec (motive := fun _ => Ac (F8 α) α) (t64_62_64 α i) (t64_60_62 α i) (Nat.ble (Nat.succ i) 62)
def t64_56_64 (α : Type) (i : Nat) : Ac (F8 α) α := Bool.rec (motive := fun _ => Ac (F8 α) α) (t64_60_64 α i) (t64_56_60 α i) (Nat.ble (Nat.succ i) 60)
def t64_48_64 (α : Type) (i : Nat) : Ac (F8 α) α := Bool.rec (motive := fun _ => Ac (F8 α) α) (t64_56_64 α i) (t64_48_56 α i) (Nat.ble (Nat.succ i) 56)
def t64_32_64 (α : Type) (i : Nat) : Ac (F8 α) α := Bool.rec (motive := fun _ => Ac (F8 α) α) (t64_48_64 α i) (t64_32_48 α i) (Nat.ble (Nat.succ i) 48)
def t64_0_64 (α : Type) (i : Nat) : Ac (F8 α) α := Bool.rec (motive := fun _ => Ac (F8 α) α) (t64_32_64 α i) (t64_0_32 α i) (Nat.ble (Nat.succ i) 32)
def k64 {R : Type} (i : Nat) (k : (F8 α → α) → (F8 α → α → F8 α) → R) : R := Ac.rec (motive := fun _ => R) k (t64_0_64 α i)
def rep8 (s : Nat) (f : Nat → α) (n : Nat) : E8 α := ⟨f n, f (Nat.sub n s), f (Nat.sub n (Nat.mul 2 s)), f (Nat.sub n (Nat.mul 3 s)), f (Nat.sub n (Nat.mul 4 s)), f (Nat.sub n (Nat.mul 5 s)), f (Nat.sub n (Nat.mul 6 s)), f (Nat.sub n (Nat.mul 7 s))⟩
end E8
/-- rows of up to 262144 places: the first 64, the first 4096, and all -/
structure T (α : Type) : Type where
  lo : F8 (Option α)
  mid : F8 (F8 (Option α))
  hi : F8 (F8 (F8 (Option α)))
namespace T
variable {α : Type}
def top : Nat := 262144
def accL (α : Type) (i : Nat) : Ac (T α) (Option α) :=
  E8.k64 i (fun g s => ⟨fun t => g t.lo, fun t x => ⟨s t.lo x, t.mid, t.hi⟩⟩)
def accM (α : Type) (i : Nat) : Ac (T α) (Option α) :=
  E8.k64 (Nat.div i 64) (fun g2 s2 => E8.k64 (Nat.mod i 64) (fun g3 s3 =>
    ⟨fun t => g3 (g2 t.mid), fun t x => ⟨t.lo, s2 t.mid (s3 (g2 t.mid) x), t.hi⟩⟩))
def accH (α : Type) (i : Nat) : Ac (T α) (Option α) :=
  E8.k64 (Nat.div i 4096) (fun g1 s1 => E8.k64 (Nat.mod (Nat.div i 64) 64) (fun g2 s2 => E8.k64 (Nat.mod i 64) (fun g3 s3 =>
    ⟨fun t => g3 (g2 (g1 t.hi)), fun t x => ⟨t.lo, t.mid, s1 t.hi (s2 (g1 t.hi) (s3 (g2 (g1 t.hi)) x))⟩⟩)))
def acc (α : Type) (i : Nat) : Ac (T α) (Option α) :=
  Bool.rec (motive := fun _ => Ac (T α) (Option α)) (Bool.rec (motive := fun _ => Ac (T α) (Option α)) (accH α i) (accM α i) (Nat.ble (Nat.succ i) 4096)) (accL α i) (Nat.ble (Nat.succ i) 64)
/-- a place that is reckoned first -/
def accN (α : Type) (i : Nat) : Ac (T α) (Option α) := Nat.rec (motive := fun _ => Ac (T α) (Option α)) (acc α 0) (fun j _ => acc α (Nat.succ j)) i
def get (t : T α) (i : Nat) : Option α := Bool.rec (motive := fun _ => Option α) none ((accN α i).get t) (Nat.ble (Nat.succ i) top)
def put (t : T α) (i : Nat) (x : α) : Option (T α) := Bool.rec (motive := fun _ => Option (T α)) none (some ((accN α i).set t (some x))) (Nat.ble (Nat.succ i) top)
def one (x : α) (n : Nat) : Option α := Nat.rec (motive := fun _ => Option α) none (fun _ _ => some x) n
/-- n times the same -/
def rep (x : α) (_ n : Nat) : T α := ⟨E8.rep8 8 (E8.rep8 1 (one x)) n, E8.rep8 512 (E8.rep8 64 (E8.rep8 8 (E8.rep8 1 (one x)))) n, E8.rep8 32768 (E8.rep8 4096 (E8.rep8 512 (E8.rep8 64 (E8.rep8 8 (E8.rep8 1 (one x)))))) n⟩
def d8 (x : α) : E8 α := ⟨x, x, x, x, x, x, x, x⟩
def e : T α := ⟨d8 (d8 none), d8 (d8 (d8 (d8 none))), d8 (d8 (d8 (d8 (d8 (d8 none)))))⟩
end T

inductive AV where
  | bool (b : Bool)
  | int (k : IntKind) (n : Int)
  | str (l : List Nat)
  | nilPtr
  | ptr (id off : Nat)
  | nilSl
  | sl (id off len : Nat) (cap : Option Nat)
  | slE
  | nilMap
  | map (id : Nat)
  | fn (f : Fn) (first cap : AV)
  | nilFn
  | iface (t : Nat) (v : AV)
  | nilIface
  | nil
  | cons (h t : AV)
  | agg (l : AV)
  | tup (l : AV)
  | unk
  | rng (lo hi : Option Int)
  | rs (k : IntKind) (m r : Nat)
  deriving Inhabited

namespace AV
def ofList : List AV → AV
  | [] => .nil
  | a :: l => .cons a (ofList l)
/-- the cells of a value, as a row -/
def cells (v : AV) : AV := match v with | .agg l => l | v => .cons v .nil
def len (v : AV) : Nat := AV.rec (motive := fun _ => Nat) (fun _ => 0) (fun _ _ => 0) (fun _ => 0) 0 (fun _ _ => 0) 0 (fun _ _ _ _ => 0) 0 0 (fun _ => 0) (fun _ _ _ _ _ => 0) 0 (fun _ _ _ => 0) 0
  0 (fun _ _ _ t => Nat.succ t) (fun _ _ => 0) (fun _ _ => 0) 0 (fun _ _ => 0) (fun _ _ _ => 0) v
def app : AV → AV → AV
  | .cons h t, m => .cons h (app t m)
  | _, m => m
def nth : AV → Nat → Option AV
  | .cons h _, 0 => some h
  | .cons _ t, i + 1 => nth t i
  | _, _ => none
/-- n of them from i on -/
def part : AV → Nat → Nat → Option AV
  | _, _, 0 => some .nil
  | .cons h t, 0, n + 1 => (match part t 0 n with | some l => some (.cons h l) | none => none)
  | .cons _ t, i + 1, n + 1 => part t i (n + 1)
  | _, _, _ + 1 => none
def rep (z : AV) : Nat → AV
  | 0 => .nil
  | n + 1 => app z (rep z n)
end AV

abbrev undefA : AV := .tup .nil

structure Ent where
  key : AV
  val : AV
  born : Nat

inductive AO where
  /-- cells, how many are sure, the step of an open row (0: it is shut), its type -/
  | cells (c : T AV) (n sz e : Nat)
  | map (es : List Ent) (clock : Nat)
  | iter (m : Option Nat) (since : Nat) (seen : List Nat) (stepped : Nat)
  | siter (s : List Nat) (pos : Nat)
  | dead

abbrev Hp := T AO

inductive CO where
  | t (i : Nat)
  | c (v : AV)

def conv : Nat → Value → Option AV
  | 0, _ => none
  | n + 1, v => match v with
    | .bool b => some (.bool b)
    | .int k m => some (.int k m)
    | .string s => some (.str (s.data.toList.map (·.toNat)))
    | .pointer none => some .nilPtr
    | .slice none 0 0 => some .nilSl
    | .map none => some .nilMap
    | .nilFunc => some .nilFn
    | .nilIface => some .nilIface
    | .iface t v => (match conv n v with | some x => some (.iface t x) | none => none)
    | .agg cs => (match convL n cs.toList with | some x => some (.agg x) | none => none)
    | .tuple cs => (match convL n cs.toList with | some x => some (.tup x) | none => none)
    | .func f a b => (match convL n a.toList, convL n b.toList with | some x, some y => some (.fn f x y) | _, _ => none)
    | _ => none
where convL : Nat → List Value → Option AV
  | _, [] => some .nil
  | 0, _ => none
  | n + 1, v :: l => (match conv n v, convL n l with | some x, some y => some (.cons x y) | _, _ => none)

def opdOf (G : Nat) : Operand → Option CO
  | .tmp i => some (.t i)
  | .const v => (match conv 600 v with | some x => some (.c x) | none => none)
  | .global g => bif Nat.blt g G then some (.c (.ptr g 0)) else none
  | .func f => some (.c (.fn (.func f) .nil .nil))

def opdsOf (G : Nat) : List Operand → Option (List CO)
  | [] => some []
  | x :: l => (match opdOf G x, opdsOf G l with | some a, some b => some (a :: b) | _, _ => none)

def opdO (G : Nat) : Option Operand → Option (Option CO)
  | none => some none
  | some x => (match opdOf G x with | some a => some (some a) | none => none)

inductive Cal where
  | val (x : CO)
  | inv (x : CO) (name : String)

inductive EqS where
  | int | str | bool | ptr | slice | map | func | iface
inductive EqK where
  | s (k : EqS)
  | flat (l : List (Nat × EqS))

inductive COp where
  | mv (x : CO)
  | pick (c a b : CO)
  | bin (op : BinOp) (x y : CO)
  | eq (neg : Bool) (k : EqK) (x y : CO)
  | not (x : CO)
  | neg (x : CO)
  | toInt (k : IntKind) (x : CO)
  | nilchk (x : CO)
  | iface (t : Nat) (x : CO)
  | func (f : Fn) (first cap : List CO)
  | faddr (off : Nat) (x : CO)
  | field (off : Nat) (x : CO)
  | fields (off n : Nat) (x : CO)
  | idxA (n s : Nat) (x i : CO)
  | idxS (s : Nat) (x i : CO)
  | idxStr (x i : CO)
  | idxV (n s : Nat) (x i : CO)
  | idxVs (n s : Nat) (x i : CO)
  | build (z : AV) (ps : List (Nat × Nat × CO))
  | slStr (x : CO) (lo hi : Option CO)
  | slArr (n s : Nat) (x : CO) (lo hi mx : Option CO)
  | extract (i : Nat) (x : CO)
  | asC (t : Nat) (z : Option AV) (x : CO)
  | asI (want : List (String × Nat)) (z : Option AV) (x : CO)
  -- what looks at memory
  | load (x : CO)
  | loads (n : Nat) (x : CO)
  | slice (s : Nat) (x : CO) (lo hi mx : Option CO)
  | len (k : EqS) (x : CO)
  | lenC (n : Nat) (x : CO)
  | cap (x : CO)
  | lookup (q : EqS) (z : AV) (ok : Bool) (m k : CO)
  | toStr (x : CO)
  | bytesStr (x : CO)
  | toUp (x : CO)
  | fromUp (u s : Nat) (x : CO)
  | sdata (x : CO)
  -- what makes memory
  | alloc (z : AV) (e : Nat)
  | box (e : Nat) (x : CO)
  | bslice (z : AV) (len s e : Nat) (ps : List (Nat × Nat × CO))
  | mkmap
  | mkslice (z : AV) (s e : Nat) (l c : CO)
  | toBytes (e : Nat) (x : CO)
  -- what acts
  | store (n : Nat) (a x : CO)
  | mapupd (q : EqS) (m k v : CO)
  | range (str : Bool) (x : CO)
  | next (str : Bool) (x : CO)
  | append (s e : Nat) (x y : CO)
  | copy (s : Nat) (x y : CO)
  | delete (q : EqS) (m k : CO)
  | minmax (mx : Bool) (xs : List CO)
  | ustr (e : Nat) (x n : CO)
  | call (c : Cal) (xs : List CO)
  | defer (x : CO) (xs : List CO)

section types
variable (P : Program) (G : Nat)
def tySize (t : Nat) : Option Nat := match P.info? t with | some i => some i.size | none => none
def tyAgg (t : Nat) : Option Bool := match P.underlying t with | some (.struct _) | some (.array _ _) => some true | some _ => some false | none => none
def tyZero (t : Nat) : Option AV := match P.info? t with | some i => (match i.zero with | some v => conv 3000 v | none => none) | none => none
def smallBytes (t : Nat) : Bool := match P.info? t with | some i => Nat.ble i.bytes 1000000 | none => false
def tyZeroC (t : Nat) : Option AV := match tyZero P t with | some z => some z.cells | none => none
def tyField (s f : Nat) : Option (Nat × Nat) := match P.underlying s with | some (.struct fs) => (match fs[f]? with | some x => some (x.type, x.offset) | none => none) | _ => none
def tySlice (t : Nat) : Option (Nat × Nat) := match P.underlying t with | some (.slice e) => (match tySize P e with | some s => some (e, s) | none => none) | _ => none
def tyArr (t : Nat) : Option (Nat × Nat × Nat) := match P.underlying t with | some (.array n e) => (match tySize P e with | some s => some (n, e, s) | none => none) | _ => none
def sized : List Field → Bool
  | [] => true
  | f :: l => (match tySize P f.type with | some _ => sized l | none => false)
def partsS (t : Nat) : List (Nat × Operand) → Option (List (Nat × Nat × CO))
  | [] => some []
  | (i, x) :: l => (match tyField P t i with
    | some (ft, off) => (match tySize P ft, opdOf G x, partsS t l with | some s, some a, some b => some ((off, s, a) :: b) | _, _, _ => none)
    | none => none)
def partsA (G : Nat) (s : Nat) : List (Nat × Operand) → Option (List (Nat × Nat × CO))
  | [] => some []
  | (i, x) :: l => (match opdOf G x, partsA G s l with | some a, some b => some ((i * s, s, a) :: b) | _, _ => none)

def o1 {α β : Type} (x : Option α) (f : α → Option β) : Option β := match x with | some a => f a | none => none

def eqSOf (t : Nat) : Option EqS :=
  match P.underlying t with
  | some .bool => some .bool
  | some (.int _) => some .int
  | some .string => some .str
  | some (.pointer e) => (match tySize P e with | some (_ + 1) => some .ptr | _ => none)
  | some (.slice _) => some .slice
  | some (.map _ _) => some .map
  | some (.func _ _ _) => some .func
  | some (.interface _) => some .iface
  | _ => none
def eqFields : List Field → Option (List (Nat × EqS))
  | [] => some []
  | f :: l => (match eqSOf P f.type, eqFields l with | some k, some m => bif f.name == "_" then none else some ((f.offset, k) :: m) | _, _ => none)
def eqKOf (t : Nat) (cst : Bool) : Option EqK :=
  match eqSOf P t with
  | some .iface => bif cst then some (.s .iface) else none
  | some k => some (.s k)
  | none => (match P.underlying t with
    | some (.struct fs) => bif P.stoodInHeld t || P.eqGuardType P.depth t then none else (match eqFields P fs.toList with | some l => some (.flat l) | none => none)
    | _ => none)
def keyKind (t : Nat) : Option EqS :=
  match P.underlying t with
  | some .bool => some .bool
  | some (.int _) => some .int
  | some .string => some .str
  | _ => none
def mapKind (t : Nat) : Option EqS := match P.underlying t with | some (.map k _) => keyKind P k | _ => none

def cConvert (s d : Nat) (x : CO) : Option COp :=
  match P.underlying s, P.underlying d with
  | some (.int _), some (.int k) => some (.toInt k x)
  | some (.string), some .string => some (.toStr x)
  | some (.int _), some .string => some (.toStr x)
  | some (.slice e), some .string => (match P.underlying e with | some (.int .u8) => some (.bytesStr x) | _ => none)
  | some .string, some (.slice e) => (match P.underlying e with | some (.int .u8) => some (.toBytes e x) | _ => none)
  | some (.pointer t), some .unsafePointer => (match tySize P t with | some (_ + 1) => some (.toUp x) | _ => none)
  | some .unsafePointer, some (.pointer u) => (match tySize P u with | some (n + 1) => some (.fromUp u (n + 1) x) | _ => none)
  | _, _ => none

def cBuiltin (b : Builtin) (ts : List Nat) (xs : List CO) : Option COp :=
  match b, ts, xs with
  | .len, [t], [x] => (match P.underlying t with
    | some .string => some (.len .str x)
    | some (.slice _) => some (.len .slice x)
    | some (.map _ _) => some (.len .map x)
    | some (.array n _) => some (.lenC n x)
    | some (.pointer a) => (match P.underlying a with | some (.array n _) => some (.lenC n x) | _ => none)
    | _ => none)
  | .cap, [t], [x] => (match P.underlying t with | some (.slice _) => some (.cap x) | _ => none)
  | .append, [t, u], [x, y] => (match tySlice P t, P.underlying u with
    | some (e, s), some (.int _) => none
    | some (e, s), some _ => (match tyZeroC P e with | some z => bif Nat.beq z.len s && smallBytes P e && Nat.blt 0 s then some (.append s e x y) else none | none => none)
    | _, _ => none)
  | .copy, [t, _], [x, y] => (match tySlice P t with | some (_, s) => some (.copy s x y) | none => none)
  | .min, _, xs => some (.minmax false xs)
  | .max, _, xs => some (.minmax true xs)
  | .delete, [t, _], [m, k] => o1 (mapKind P t) fun q => some (.delete q m k)
  | .unsafeSliceData, _, [x] => some (.sdata x)
  | .unsafeString, t :: _, [x, n] => (match P.underlying t with | some (.pointer e) => (match tySize P e with | some 1 => some (.ustr e x n) | _ => none) | _ => none)
  | _, _, _ => none

def cOp (op : Op) : Option COp :=
  match op with
  | .move x | .assign x => o1 (opdOf G x) fun a => some (.mv a)
  | .pick c a b => o1 (opdOf G c) fun c => o1 (opdOf G a) fun a => o1 (opdOf G b) fun b => some (.pick c a b)
  | .alloc t => o1 (tyZeroC P t) fun z => some (.alloc z t)
  | .box t x => o1 (opdOf G x) fun x => some (.box t x)
  | .build t ps => (match tyZeroC P t, P.underlying t with
    | some z, some (.struct fs) => bif sized P fs.toList then o1 (partsS P G t ps.toList) fun l => some (.build z l) else none
    | some z, some (.array _ e) => o1 (tySize P e) fun s => o1 (partsA G s ps.toList) fun l => some (.build z l)
    | _, _ => none)
  | .buildSlice t len ps => o1 (tySlice P t) fun es => o1 (tyZeroC P es.1) fun z => o1 (partsA G es.2 ps.toList) fun l => bif Nat.beq z.len es.2 && Nat.ble (Nat.mul len es.2) 100000 && Nat.blt 0 es.2 then some (.bslice (z.rep len) len es.2 es.1 l) else none
  | .load t a => o1 (opdOf G a) fun x => o1 (tyAgg P t) fun g => bif g then o1 (tySize P t) fun n => some (.loads n x) else some (.load x)
  | .store t a x => o1 (opdOf G a) fun a => o1 (opdOf G x) fun x => o1 (tySize P t) fun n => some (.store n a x)
  | .nilCheck x => o1 (opdOf G x) fun x => some (.nilchk x)
  | .binOp op t x y _ => o1 (opdOf G x) fun x' => o1 (opdOf G y) fun y' => (match op with
    | .eql => o1 (eqKOf P t (Region.isConst x || Region.isConst y)) fun k => some (.eq false k x' y')
    | .neq => o1 (eqKOf P t (Region.isConst x || Region.isConst y)) fun k => some (.eq true k x' y')
    | op => some (.bin op x' y'))
  | .unOp op _ x => o1 (opdOf G x) fun x => (match op with | .not => some (.not x) | .neg => some (.neg x) | _ => none)
  | .convert s d x => o1 (opdOf G x) fun x => cConvert P s d x
  | .makeInterface t x => o1 (opdOf G x) fun x => (match P.underlying t with | some (.interface _) => none | some _ => some (.iface t x) | none => none)
  | .makeFunc f a c => o1 (opdsOf G a.toList) fun a => o1 (opdsOf G c.toList) fun c => some (.func f a c)
  | .makeMap t r => (match r with | none => some .mkmap | some (.const (.int _ _)) => (match P.underlying t with | some (.map _ _) => some .mkmap | _ => none) | _ => none)
  | .makeSlice t l c => o1 (tySlice P t) fun es => o1 (tyZeroC P es.1) fun z => o1 (opdOf G l) fun l => o1 (opdOf G c) fun c => bif Nat.beq z.len es.2 && smallBytes P es.1 && Nat.blt 0 es.2 then some (.mkslice z es.2 es.1 l c) else none
  | .slice t x lo hi mx => o1 (opdOf G x) fun x => o1 (opdO G lo) fun lo => o1 (opdO G hi) fun hi => o1 (opdO G mx) fun mx =>
    bif mx.isSome && !hi.isSome then none else (match P.underlying t with
    | some .string => bif mx.isSome then none else some (.slStr x lo hi)
    | some (.slice e) => o1 (tySize P e) fun s => some (.slice s x lo hi mx)
    | some (.array n e) => o1 (tySize P e) fun s => some (.slArr n s x lo hi mx)
    | some (.pointer a) => o1 (tyArr P a) fun q => some (.slArr q.1 q.2.2 x lo hi mx)
    | _ => none)
  | .fieldAddr s x f => o1 (tyField P s f) fun fo => (match tySize P fo.1 with | some (_ + 1) => o1 (opdOf G x) fun x => some (.faddr fo.2 x) | _ => none)
  | .field t x f => o1 (tyField P t f) fun fo => o1 (opdOf G x) fun x => o1 (tyAgg P fo.1) fun g => bif g then o1 (tySize P fo.1) fun n => some (.fields fo.2 n x) else some (.field fo.2 x)
  | .indexAddr t x i => o1 (opdOf G x) fun x => o1 (opdOf G i) fun i => (match P.underlying t with
    | some (.array n e) => o1 (tySize P e) fun s => some (.idxA n s x i)
    | some (.slice e) => o1 (tySize P e) fun s => some (.idxS s x i)
    | _ => none)
  | .index t x i => o1 (opdOf G x) fun x => o1 (opdOf G i) fun i => (match P.underlying t with
    | some .string => some (.idxStr x i)
    | some (.array n e) => o1 (tySize P e) fun s => o1 (tyAgg P e) fun g => bif g then some (.idxVs n s x i) else some (.idxV n s x i)
    | _ => none)
  | .lookup t m k ok => (match P.underlying t with
    | some (.map kt e) => o1 (keyKind P kt) fun q => o1 (tyZero P e) fun z => o1 (opdOf G m) fun m => o1 (opdOf G k) fun k => some (.lookup q z ok m k)
    | _ => none)
  | .mapUpdate t m k v | .insert t m k v => o1 (mapKind P t) fun q => o1 (opdOf G m) fun m => o1 (opdOf G k) fun k => o1 (opdOf G v) fun v => some (.mapupd q m k v)
  | .range t x => o1 (opdOf G x) fun x => (match P.underlying t with | some .string => some (.range true x) | some (.map _ _) => some (.range false x) | _ => none)
  | .next it s => o1 (opdOf G it) fun x => some (.next s x)
  | .typeAssert x _ t ok => o1 (opdOf G x) fun x => (match P.underlying t with
    | some (.interface want) => bif ok then o1 (tyZero P t) fun z => some (.asI want.toList (some z) x) else some (.asI want.toList none x)
    | some _ => bif ok then o1 (tyZero P t) fun z => some (.asC t (some z) x) else some (.asC t none x)
    | none => none)
  | .extract x i => o1 (opdOf G x) fun x => some (.extract i x)
  | .call c => o1 (opdsOf G c.args.toList) fun xs => (match c.callee with
    | .builtin b => cBuiltin P b c.argTypes.toList xs
    | .value f => o1 (opdOf G f) fun f => some (.call (.val f) xs)
    | .invoke r name => o1 (opdOf G r) fun r => some (.call (.inv r name) xs))
  | .defer c => o1 (opdsOf G c.args.toList) fun xs => (match c.callee with
    | .value f => o1 (opdOf G f) fun f => some (.defer f xs)
    | _ => none)
  | _ => none
end types

/-! ### values -/
def opd (tm : T AV) (x : CO) : Option AV := CO.rec (motive := fun _ => Option AV) (fun i => tm.get i) (fun v => some v) x
def opds (tm : T AV) : List CO → Option AV
  | [] => some .nil
  | x :: l => (match opd tm x with | some a => (match opds tm l with | some b => some (.cons a b) | none => none) | none => none)

def kcode (k : IntKind) : Nat := IntKind.rec (motive := fun _ => Nat) 0 1 2 3 4 5 6 7 k
def kmax (k : IntKind) : Nat := IntKind.rec (motive := fun _ => Nat) 127 32767 2147483647 9223372036854775807 255 65535 4294967295 18446744073709551615 k
def kneg (k : IntKind) : Nat := IntKind.rec (motive := fun _ => Nat) 128 32768 2147483648 9223372036854775808 0 0 0 0 k
/-- wrap, quick where nothing is to be done -/
def wrapF (k : IntKind) (n : Int) : Int :=
  Int.rec (motive := fun _ => Int) (fun m => Bool.rec (motive := fun _ => Int) (k.wrap (.ofNat m)) (.ofNat m) (Nat.ble m (kmax k)))
    (fun m => Bool.rec (motive := fun _ => Int) (k.wrap (.negSucc m)) (.negSucc m) (Nat.blt m (kneg k))) n
def ieq (a b : Int) : Bool := Int.rec (motive := fun _ => Bool) (fun m => Int.rec (motive := fun _ => Bool) (fun n => Nat.beq m n) (fun _ => false) b)
  (fun m => Int.rec (motive := fun _ => Bool) (fun _ => false) (fun n => Nat.beq m n) b) a
def ile (a b : Int) : Bool := Int.rec (motive := fun _ => Bool) (fun m => Int.rec (motive := fun _ => Bool) (fun n => Nat.ble m n) (fun _ => false) b)
  (fun m => Int.rec (motive := fun _ => Bool) (fun _ => true) (fun n => Nat.ble n m) b) a
def iadd (a b : Int) : Int := Int.rec (motive := fun _ => Int) (fun m => Int.rec (motive := fun _ => Int) (fun n => .ofNat (Nat.add m n)) (fun n => Int.subNatNat m (Nat.succ n)) b)
  (fun m => Int.rec (motive := fun _ => Int) (fun n => Int.subNatNat n (Nat.succ m)) (fun n => .negSucc (Nat.succ (Nat.add m n))) b) a
def imul (a b : Int) : Int := Int.rec (motive := fun _ => Int) (fun m => Int.rec (motive := fun _ => Int) (fun n => .ofNat (Nat.mul m n)) (fun n => Int.negOfNat (Nat.mul m (Nat.succ n))) b)
  (fun m => Int.rec (motive := fun _ => Int) (fun n => Int.negOfNat (Nat.mul (Nat.succ m) n)) (fun n => .ofNat (Nat.mul (Nat.succ m) (Nat.succ n))) b) a
def ineg (a : Int) : Int := Int.rec (motive := fun _ => Int) (fun m => Int.negOfNat m) (fun m => .ofNat (Nat.succ m)) a

def kbits (k : IntKind) : Nat := match k with | .i8 | .u8 => 8 | .i16 | .u16 => 16 | .i32 | .u32 => 32 | .i64 | .u64 => 64
def nat2 (f : Nat → Nat → Nat) (k : IntKind) (a b : Int) : Option AV :=
  match a, b with | .ofNat x, .ofNat y => bif Nat.ble x (kmax k) && Nat.ble y (kmax k) then some (.int k (.ofNat (f x y))) else none | _, _ => none
def intOp (op : BinOp) (k : IntKind) (a b : Int) : Option AV :=
  match op with
  | .add => some (.int k (wrapF k (iadd a b)))
  | .sub => some (.int k (wrapF k (iadd a (ineg b))))
  | .mul => some (.int k (wrapF k (imul a b)))
  | .quo => (match a, b with | .ofNat x, .ofNat (y + 1) => some (.int k (wrapF k (.ofNat (Nat.div x (y + 1))))) | _, .ofNat 0 => none | _, _ => some (.int k (wrapF k (a.tdiv b))))
  | .rem => (match a, b with | .ofNat x, .ofNat (y + 1) => some (.int k (.ofNat (Nat.mod x (y + 1)))) | _, .ofNat 0 => none | _, _ => some (.int k (a.tmod b)))
  | .eql | .neq => none
  | .lss => some (.bool (!(ile b a)))
  | .leq => some (.bool (ile a b))
  | .gtr => some (.bool (!(ile a b)))
  | .geq => some (.bool (ile b a))
  | .and => nat2 Nat.land k a b
  | .or => nat2 Nat.lor k a b
  | .xor => nat2 Nat.xor k a b
  | .andNot => nat2 (fun x y => Nat.xor x (Nat.land x y)) k a b
  | .shl => (match a, b with | .ofNat x, .ofNat y => bif Nat.ble y (kbits k) then some (.int k (wrapF k (.ofNat (Nat.mul x (Nat.pow 2 y))))) else none | _, _ => none)
  | .shr => (match a, b with | .ofNat x, .ofNat y => bif Nat.ble y (kbits k) then some (.int k (.ofNat (Nat.div x (Nat.pow 2 y)))) else none | _, _ => none)

def strLess : List Nat → List Nat → Bool
  | _, [] => false
  | [], _ :: _ => true
  | a :: x, b :: y => bif Nat.blt a b then true else bif Nat.beq a b then strLess x y else false
def natsEq : List Nat → List Nat → Bool
  | [], [] => true
  | a :: x, b :: y => bif Nat.beq a b then natsEq x y else false
  | _, _ => false

def strOp (op : BinOp) (x y : List Nat) : Option AV :=
  match op with
  | .add => bif Nat.ble (Nat.add x.length y.length) 1000000 then some (.str (x ++ y)) else none
  | .lss => some (.bool (strLess x y))
  | .leq => some (.bool (!strLess y x))
  | .gtr => some (.bool (strLess y x))
  | .geq => some (.bool (!strLess x y))
  | _ => none

/-- is all of it above b? -/
def oge (lo : Option Int) (b : Int) : Bool := match lo with | some l => !(ile l b) | none => false
/-- is all of it below b? -/
def ole (hi : Option Int) (b : Int) : Bool := match hi with | some h => !(ile b h) | none => false
/-- is all of it from b on? -/
def ogE (lo : Option Int) (b : Int) : Bool := match lo with | some l => ile b l | none => false
def olE (hi : Option Int) (b : Int) : Bool := match hi with | some h => ile h b | none => false
def rngOp (op : BinOp) (lo hi : Option Int) (b : Int) : Option AV :=
  match op with
  | .lss => bif ole hi b then some (.bool true) else bif ogE lo b then some (.bool false) else none
  | .leq => bif olE hi b then some (.bool true) else bif oge lo b then some (.bool false) else none
  | .gtr => bif oge lo b then some (.bool true) else bif olE hi b then some (.bool false) else none
  | .geq => bif ogE lo b then some (.bool true) else bif ole hi b then some (.bool false) else none
  | _ => none

/-- equality where nothing is asked -/
def eqSA (k : EqS) (x y : AV) : Option Bool :=
  match k with
  | .int => (match x, y with
    | .int k a, .int j b => bif Nat.beq (kcode k) (kcode j) then some (ieq a b) else none
    | .rng lo hi, .int .i64 b => bif (oge lo b) || (ole hi b) then some false else none
    | _, _ => none)
  | .str => (match x, y with | .str a, .str b => some (natsEq a b) | _, _ => none)
  | .bool => (match x, y with | .bool a, .bool b => some (match a, b with | true, true => true | false, false => true | _, _ => false) | _, _ => none)
  | .ptr => (match x, y with
    | .nilPtr, .nilPtr => some true
    | .nilPtr, .ptr .. | .ptr .., .nilPtr => some false
    | .ptr i o, .ptr j q => bif Nat.beq i j then some (Nat.beq o q) else none
    | _, _ => none)
  | .slice => (match x, y with
    | .nilSl, .nilSl => some true
    | .nilSl, .sl .. | .sl .., .nilSl | .nilSl, .slE | .slE, .nilSl => some false
    | _, _ => none)
  | .map => (match x, y with | .nilMap, .nilMap => some true | .nilMap, .map _ | .map _, .nilMap => some false | _, _ => none)
  | .func => (match x, y with | .nilFn, .nilFn => some true | .nilFn, .fn .. | .fn .., .nilFn => some false | _, _ => none)
  | .iface => (match x, y with | .nilIface, .nilIface => some true | .nilIface, .iface .. | .iface .., .nilIface => some false | _, _ => none)
def eqFA (x y : AV) : List (Nat × EqS) → Option Bool
  | [] => some true
  | (o, k) :: l => (match x.nth o, y.nth o with
    | some a, some b => (match eqSA k a b with | some true => eqFA x y l | r => r)
    | _, _ => none)
def eqKA (k : EqK) (x y : AV) : Option Bool :=
  match k with
  | .s k => eqSA k x y
  | .flat l => (match x, y with | .agg a, .agg b => eqFA a b l | _, _ => none)

def binA (op : BinOp) (x y : AV) : Option AV :=
  match x, y with
  | .int k a, .int j b => (match op with
     | .shl | .shr => intOp op k a b
     | _ => bif Nat.beq (kcode k) (kcode j) then intOp op k a b else none)
  | .str a, .str b => strOp op a b
  | .rng lo hi, .int .i64 b => rngOp op lo hi b
  | .rs k m r, .int j (.ofNat (n + 1)) => (match op with | .rem => bif Nat.beq m (n + 1) && Nat.beq (kcode k) (kcode j) then some (.int k (.ofNat r)) else none | _ => none)
  | _, _ => none

def bytesA : List Nat → AV
  | [] => .nil
  | n :: l => .cons (.int .u8 (.ofNat n)) (bytesA l)
def natsA : AV → Option (List Nat)
  | .nil => some []
  | .cons (.int .u8 (.ofNat n)) t => bif Nat.blt n 256 then (match natsA t with | some l => some (n :: l) | none => none) else none
  | _ => none

def natOf (x : Option AV) : Option Nat := match x with | some (.int _ (.ofNat n)) => some n | _ => none
def lim (tm : T AV) (x : Option CO) (d : Nat) : Option Nat := match x with | some c => natOf (opd tm c) | none => some d

/-! ### cells -/
def getCells (c : T AV) : Nat → Nat → Option AV
  | _, 0 => some .nil
  | i, n + 1 => (match c.get i with
    | some v => (match getCells c (Nat.succ i) n with | some l => some (.cons v l) | none => none)
    | none => none)
def putCells (c : T AV) : Nat → AV → Option (T AV)
  | i, .cons h t => (match c.put i h with | some c' => putCells c' (Nat.succ i) t | none => none)
  | _, _ => some c
termination_by structural _ l => l
def rowOf (l : AV) : Option (T AV) := putCells .e 0 l

/-- a row laid over another one -/
def setL : AV → Nat → AV → Option AV
  | l, 0, .nil => some l
  | .cons _ t, 0, .cons v vs => (match setL t 0 vs with | some t' => some (.cons v t') | none => none)
  | .cons h t, i + 1, vs => (match setL t i vs with | some t' => some (.cons h t') | none => none)
  | _, _, _ => none
def fillL (tm : T AV) : AV → List (Nat × Nat × CO) → Option AV
  | z, [] => some z
  | z, (off, size, x) :: l => (match opd tm x with
    | some v => (match v.cells with
      | vc => bif Nat.beq vc.len size then (match setL z off vc with | some z => fillL tm z l | none => none) else none)
    | none => none)
termination_by structural _ l => l

def cellsAt (H : Hp) (id : Nat) : Option (T AV × Nat × Nat × Nat) := match H.get id with | some (.cells c n sz e) => some (c, n, sz, e) | _ => none
def rdAt (H : Hp) (id off n : Nat) : Option AV := match H.get id with | some (.cells c _ _ _) => getCells c off n | _ => none
/-- is it a value of one cell? -/
def oneA (v : AV) : Bool := match v with | .agg _ | .tup _ | .nil | .cons .. => false | _ => true
def allOne : AV → Bool
  | .cons h t => bif oneA h then allOne t else false
  | _ => true
/-- into a row that is there, below what is sure -/
def wrAt (G : Nat) (H : Hp) (id off : Nat) (l : AV) : Option Hp :=
  match H.get id with
  | some (.cells c n sz e) => bif Nat.ble G id && Nat.ble (Nat.add off l.len) n && allOne l then
      (match putCells c off l with | some c' => H.put id (.cells c' n sz e) | none => none) else none
  | _ => none

def srcA (H : Hp) (size : Nat) (x : AV) : Option (AV × Nat) :=
  match x with
  | .nilSl | .slE => some (.nil, 0)
  | .sl id off len _ => (match rdAt H id off (Nat.mul len size) with | some l => some (l, len) | none => none)
  | .str l => bif Nat.beq size 1 then some (bytesA l, l.length) else none
  | _ => none

inductive R where
  | no
  | v (a : AV) (H : Hp) (nx : Nat)
  | call (f : Nat) (args : AV)
  | defer (f : Nat) (args : AV)

def R.of (H : Hp) (nx : Nat) (x : Option AV) : R := Option.rec (motive := fun _ => R) .no (fun a => .v a H nx) x
def R.up (a : AV) (nx : Nat) (x : Option Hp) : R := match x with | some H => .v a H nx | none => .no
def R.new (a : AV) (H : Hp) (nx : Nat) (o : AO) : R := match H.put nx o with | some H' => .v a H' (Nat.succ nx) | none => .no

def appendA (G : Nat) (H : Hp) (nx size e : Nat) (s x : AV) : R :=
  match srcA H size x with
  | none => .no
  | some (new, m) => bif Nat.ble m 100000 then (
    match s with
    | .nilSl => bif Nat.beq m 0 then .v .nilSl H nx else (match rowOf new with | some c => R.new (.sl nx 0 m none) H nx (.cells c (Nat.mul m size) size e) | none => .no)
    | .slE => bif Nat.beq m 0 then .v .slE H nx else .no
    | .sl id off len cap => bif Nat.ble len 100000 then
      (match H.get id with
      | some (.cells c n sz el) =>
        (match cap with
        | some k => bif Nat.ble (Nat.add len m) k then R.up (.sl id off (Nat.add len m) cap) nx (wrAt G H id (Nat.add off (Nat.mul len size)) new)
            else (match getCells c off (Nat.mul len size) with
              | some old => (match rowOf (old.app new) with
                | some c => R.new (.sl nx 0 (Nat.add len m) none) H nx (.cells c (Nat.mul (Nat.add len m) size) size e)
                | none => .no)
              | none => .no)
        | none => bif Nat.beq sz size then (bif Nat.ble (Nat.add off (Nat.mul (Nat.add len m) size)) n then R.up (.sl id off (Nat.add len m) cap) nx (wrAt G H id (Nat.add off (Nat.mul len size)) new)
            else bif Nat.ble G id && allOne new && Nat.beq el e then (match H.put id .dead with
              | some H' => bif Nat.beq off 0 && Nat.beq (Nat.mul len size) n then (match putCells c n new with
                  | some c => R.new (.sl nx 0 (Nat.add len m) none) H' nx (.cells c (Nat.mul (Nat.add len m) size) size e)
                  | none => .no)
                else (match getCells c off (Nat.mul len size) with
                  | some old => (match rowOf (old.app new) with
                    | some c => R.new (.sl nx 0 (Nat.add len m) none) H' nx (.cells c (Nat.mul (Nat.add len m) size) size e)
                    | none => .no)
                  | none => .no)
              | none => .no)
            else .no) else .no)
      | _ => .no) else .no
    | _ => .no) else .no

def findE (q : EqS) (k : AV) : List Ent → Option (Option AV)
  | [] => some none
  | e :: l => (match eqSA q k e.key with | some true => some (some e.val) | some false => findE q k l | none => none)
def updE (q : EqS) (k v : AV) : List Ent → Option (List Ent)
  | [] => none
  | e :: l => (match eqSA q k e.key with | some true => some (⟨k, v, e.born⟩ :: l) | some false => (match updE q k v l with | some l' => some (e :: l') | none => none) | none => none)
def delE (q : EqS) (k : AV) : List Ent → Option (List Ent)
  | [] => some []
  | e :: l => (match eqSA q k e.key with | some true => some l | some false => (match delE q k l with | some l' => some (e :: l') | none => none) | none => none)

def mmA (mx : Bool) : AV → AV → Option AV
  | v, .nil => some v
  | .int k a, .cons (.int _ b) l => mmA mx (.int k (bif (bif mx then !(ile b a) else !(ile a b)) then b else a)) l
  | _, _ => none
termination_by structural _ l => l

def cmpL : List Nat → List Nat → Int
  | [], [] => 0
  | [], _ :: _ => -1
  | _ :: _, [] => 1
  | a :: x, b :: y => bif Nat.blt a b then -1 else bif Nat.blt b a then 1 else cmpL x y
def idxL (c : Nat) : List Nat → Nat → Int
  | [], _ => -1
  | a :: l, i => bif Nat.beq a c then .ofNat i else idxL c l (Nat.succ i)

inductive Ext where
  | no | index | compare | overlaps | same | makeNoZero (e : Nat)

def extOf (P : Program) (fn : Func) : Ext :=
  match fn.name with
  | "internal/bytealg.IndexByteString" | "internal/bytealg.IndexByte" => .index
  | "internal/bytealg.Compare" => .compare
  | "internal/abi.NoEscape" => .same
  | "internal/bytealg.MakeNoZero" => (match fn.resultTypes[0]? with | some t => (match P.underlying t with | some (.slice e) => .makeNoZero e | _ => .no) | none => .no)
  | _ => .no

def bytesOfA (H : Hp) (x : AV) : Option (List Nat) := match x with | .str l => some l | x => (match srcA H 1 x with | some (l, _) => natsA l | none => none)

def extA (x : Ext) (args : AV) (H : Hp) (nx : Nat) : R :=
  match x, args with
  | .index, .cons a (.cons (.int .u8 (.ofNat c)) .nil) => (match bytesOfA H a with | some l => bif Nat.blt c 256 then .v (.int .i64 (idxL c l 0)) H nx else .no | none => .no)
  | .compare, .cons a (.cons b .nil) => (match bytesOfA H a, bytesOfA H b with | some l, some c => .v (.int .i64 (cmpL l c)) H nx | _, _ => .no)
  | .same, .cons a .nil => .v a H nx
  | .makeNoZero e, .cons (.int .i64 (.ofNat n)) .nil => bif Nat.ble n 100000 then R.new (.sl nx 0 n none) H nx (.cells (T.rep .unk n n) n 1 e) else .no
  | _, _ => .no

def methodOf (P : Program) (t : Nat) (name : String) : Option Nat :=
  match P.info? t with
  | some i => (match i.methods.find? (·.name == name) with
    | some m => (match m.path.toList, m.func, P.underlying t with
      | [], some (f, true), some (.pointer _) => some f
      | [], some (_, false), some (.pointer _) => none
      | [], some (f, false), some _ => some f
      | _, _, _ => none)
    | none => none)
  | none => none
def missing (P : Program) (want : List (String × Nat)) (t : Nat) : Option Bool :=
  match P.info? t with
  | some i => some (want.any fun (name, sig) => !i.methods.any fun m => m.name == name && m.sig == sig)
  | none => none

def pairA (a b : AV) : AV := .tup (.cons a (.cons b .nil))

/-! ### operations: what is reckoned alone -/
def pureA (P : Program) (co : COp) (tm : T AV) : Option AV :=
  match co with
  | .mv x => opd tm x
  | .pick c a b => (match opd tm c with | some (.bool true) => opd tm a | some (.bool false) => opd tm b | _ => none)
  | .bin op x y => (match opd tm x with | some a => (match opd tm y with | some b => binA op a b | none => none) | none => none)
  | .eq ng k x y => (match opd tm x with | some a => (match opd tm y with | some b => (match eqKA k a b with | some r => some (.bool (bif ng then !r else r)) | none => none) | none => none) | none => none)
  | .not x => (match opd tm x with | some (.bool b) => some (.bool (!b)) | _ => none)
  | .neg x => (match opd tm x with | some (.int k n) => some (.int k (wrapF k (ineg n))) | _ => none)
  | .toInt k x => (match opd tm x with | some (.int _ n) => some (.int k (wrapF k n)) | some (.rs _ m r) => (match k with | .i64 => some (.rs k m r) | _ => none) | _ => none)
  | .nilchk x => (match opd tm x with | some (.ptr i o) => some (.ptr i o) | some (.fn (.func f) a c) => some (.fn (.func f) a c) | some (.iface t v) => some (.iface t v) | _ => none)
  | .iface t x => (match opd tm x with | some v => some (.iface t v) | none => none)
  | .func f a c => (match opds tm a, opds tm c with | some a, some c => some (.fn f a c) | _, _ => none)
  | .faddr off x => (match opd tm x with | some (.ptr id o) => some (.ptr id (Nat.add o off)) | _ => none)
  | .field off x => (match opd tm x with | some (.agg l) => l.nth off | _ => none)
  | .fields off n x => (match opd tm x with | some (.agg l) => (match l.part off n with | some l => some (.agg l) | none => none) | _ => none)
  | .idxA n s x i => (match opd tm x, natOf (opd tm i) with | some (.ptr id o), some i => bif Nat.blt i n then some (.ptr id (Nat.add o (Nat.mul i s))) else none | _, _ => none)
  | .idxS s x i => (match opd tm x, natOf (opd tm i) with | some (.sl id o len _), some i => bif Nat.blt i len then some (.ptr id (Nat.add o (Nat.mul i s))) else none | _, _ => none)
  | .idxStr x i => (match opd tm x, natOf (opd tm i) with | some (.str l), some i => (match l[i]? with | some c => some (.int .u8 (.ofNat c)) | none => none) | _, _ => none)
  | .idxV n s x i => (match opd tm x, natOf (opd tm i) with | some (.agg l), some i => bif Nat.blt i n then l.nth (Nat.mul i s) else none | _, _ => none)
  | .idxVs n s x i => (match opd tm x, natOf (opd tm i) with | some (.agg l), some i => bif Nat.blt i n then (match l.part (Nat.mul i s) s with | some l => some (.agg l) | none => none) else none | _, _ => none)
  | .build z ps => (match fillL tm z ps with | some l => some (.agg l) | none => none)
  | .slStr x lo hi => (match opd tm x with
    | some (.str l) => (match lim tm lo 0, lim tm hi l.length with
      | some a, some b => bif Nat.ble a b && Nat.ble b l.length then some (.str ((l.take b).drop a)) else none
      | _, _ => none)
    | _ => none)
  | .slArr n s x lo hi mx => (match opd tm x with
    | some (.ptr id off) => (match lim tm lo 0, lim tm hi n, lim tm mx n with
      | some a, some b, some m => bif Nat.ble a b && Nat.ble b m && Nat.ble m n then some (.sl id (bif Nat.beq m a then off else Nat.add off (Nat.mul a s)) (Nat.sub b a) (some (Nat.sub m a))) else none
      | _, _, _ => none)
    | _ => none)
  | .extract i x => (match opd tm x with | some (.tup l) => l.nth i | _ => none)
  | .asC t z x => (match opd tm x with
    | some (.iface u v) => bif Nat.beq u t then (match z with | some _ => some (pairA v (.bool true)) | none => some v)
       else (match z with | some z => some (pairA z (.bool false)) | none => none)
    | some .nilIface => (match z with | some z => some (pairA z (.bool false)) | none => none)
    | _ => none)
  | .asI want z x => (match opd tm x with
    | some (.iface u v) => (match missing P want u with
      | some false => (match z with | some _ => some (pairA (.iface u v) (.bool true)) | none => some (.iface u v))
      | some true => (match z with | some z => some (pairA z (.bool false)) | none => none)
      | none => none)
    | some .nilIface => (match z with | some z => some (pairA z (.bool false)) | none => none)
    | _ => none)
  | _ => none

/-- what only looks at memory -/
def readA (P : Program) (co : COp) (tm : T AV) (H : Hp) : Option AV :=
  match co with
  | .load x => (match opd tm x with | some (.ptr id off) => (match H.get id with | some (.cells c _ _ _) => c.get off | _ => none) | _ => none)
  | .loads n x => (match opd tm x with | some (.ptr id off) => (match rdAt H id off n with | some l => some (.agg l) | none => none) | _ => none)
  | .slice s x lo hi mx => (match opd tm x with
    | some .nilSl => (match lim tm lo 0, lim tm hi 0, lim tm mx 0 with | some 0, some 0, some 0 => some .nilSl | _, _, _ => none)
    | some .slE => (match lim tm lo 0, lim tm hi 0, mx with | some 0, some 0, none => some .slE | _, _, _ => none)
    | some (.sl id off len (some k)) => (match lim tm lo 0, lim tm hi len, lim tm mx k with
      | some a, some b, some m => bif Nat.ble a b && Nat.ble b m && Nat.ble m k then some (.sl id (bif Nat.beq m a then off else Nat.add off (Nat.mul a s)) (Nat.sub b a) (some (Nat.sub m a))) else none
      | _, _, _ => none)
    | some (.sl id off len none) => (match H.get id, lim tm lo 0, lim tm hi len with
      | some (.cells _ n sz _), some a, some b => bif Nat.beq sz s && Nat.ble a b && Nat.blt 0 sz then (match mx with
          | none => bif Nat.ble (Nat.add off (Nat.mul b s)) n then
              bif Nat.beq a 0 then some (.sl id off b none)
              else bif Nat.beq (Nat.add off (Nat.mul a s)) n then some .slE else some (.sl id (Nat.add off (Nat.mul a s)) (Nat.sub b a) none)
            else none
          | some m => (match natOf (opd tm m) with
            | some m => bif Nat.ble b m && Nat.ble (Nat.add off (Nat.mul m s)) n then some (.sl id (bif Nat.beq m a then off else Nat.add off (Nat.mul a s)) (Nat.sub b a) (some (Nat.sub m a))) else none
            | none => none)) else none
      | _, _, _ => none)
    | _ => none)
  | .lenC n _ => some (.int .i64 (.ofNat n))
  | .len k x => (match k, opd tm x with
    | .str, some (.str l) => some (.int .i64 (.ofNat l.length))
    | .slice, some .nilSl | .slice, some .slE => some (.int .i64 (.ofNat 0))
    | .slice, some (.sl _ _ n _) => some (.int .i64 (.ofNat n))
    | .map, some .nilMap => some (.int .i64 (.ofNat 0))
    | .map, some (.map id) => (match H.get id with | some (.map es _) => some (.int .i64 (.ofNat es.length)) | _ => none)
    | _, _ => none)
  | .cap x => (match opd tm x with
    | some .nilSl => some (.int .i64 (.ofNat 0))
    | some (.sl _ _ _ (some n)) => some (.int .i64 (.ofNat n))
    | some (.sl id off _ none) => (match H.get id with | some (.cells _ n sz _) => bif Nat.blt off n && Nat.blt 0 sz then some (.rng (some 1) none) else none | _ => none)
    | _ => none)
  | .lookup q z ok m k => (match opd tm m, opd tm k with
    | some m, some k => (match (match m with
        | .nilMap => some none
        | .map id => (match H.get id with | some (.map es _) => findE q k es | _ => none)
        | _ => none) with
      | some (some v) => some (bif ok then pairA v (.bool true) else v)
      | some none => some (bif ok then pairA z (.bool false) else z)
      | none => none)
    | _, _ => none)
  | .toStr x => (match opd tm x with
    | some (.str l) => some (.str l)
    | some (.int _ (.ofNat n)) => bif Nat.blt n 128 then some (.str [n]) else none
    | _ => none)
  | .bytesStr x => (match opd tm x with
    | some .nilSl => some (.str [])
    | some (.sl id off len _) => (match rdAt H id off len with | some l => (match natsA l with | some l => some (.str l) | none => none) | none => none)
    | _ => none)
  | .toUp x => (match opd tm x with
    | some .nilPtr => some .nilPtr
    | some (.ptr id off) => (match H.get id with | some (.cells _ n 0 _) => bif Nat.blt off n then some (.ptr id off) else none | _ => none)
    | _ => none)
  | .fromUp u s x => (match opd tm x with
    | some .nilPtr => some .nilPtr
    | some (.ptr id 0) => (match H.get id with | some (.cells _ n 0 e) => bif Nat.beq e u && Nat.ble s n then some (.ptr id 0) else none | _ => none)
    | _ => none)
  | .sdata x => (match opd tm x with
    | some .nilSl => some .nilPtr
    | some (.sl id off _ none) => (match H.get id with | some (.cells _ n sz _) => bif Nat.blt off n && Nat.blt 0 sz then some (.ptr id off) else none | _ => none)
    | some (.sl id off _ (some (_ + 1))) => some (.ptr id off)
    | _ => none)
  | _ => none

/-- what makes one block -/
def newA (co : COp) (tm : T AV) (nx : Nat) : Option (AV × AO) :=
  match co with
  | .alloc z e => (match rowOf z with | some c => some (.ptr nx 0, .cells c z.len 0 e) | none => none)
  | .box e x => (match opd tm x with | some v => (match v.cells with | z => (match rowOf z with | some c => some (.ptr nx 0, .cells c z.len 0 e) | none => none)) | none => none)
  | .bslice z len _ e ps => (match fillL tm z ps with | some l => (match rowOf l with | some c => some (.sl nx 0 len (some len), .cells c l.len 0 e) | none => none) | none => none)
  | .mkmap => some (.map nx, .map [] 0)
  | .mkslice z s e l c => (match natOf (opd tm l), natOf (opd tm c) with
    | some l, some c => bif Nat.ble l c && Nat.ble c 100000 then (match z with
       | .cons z1 .nil => some (.sl nx 0 l (some c), .cells (T.rep z1 c c) c 0 e)
       | z => (match rowOf (z.rep c) with | some t => some (.sl nx 0 l (some c), .cells t (Nat.mul c s) 0 e) | none => none)) else none
    | _, _ => none)
  | .toBytes e x => (match opd tm x with | some (.str l) => (match rowOf (bytesA l) with | some c => some (.sl nx 0 l.length none, .cells c l.length 1 e) | none => none) | _ => none)
  | _ => none

/-- what acts -/
def heavyA (P : Program) (G : Nat) (co : COp) (tm : T AV) (H : Hp) (nx : Nat) : R :=
  match co with
  | .store n a x => (match opd tm a, opd tm x with
    | some (.ptr id off), some v => (match v.cells with | vc => bif Nat.beq vc.len n then R.up undefA nx (wrAt G H id off vc) else .no)
    | _, _ => .no)
  | .mapupd q m k v => (match opd tm m, opd tm k, opd tm v with
    | some (.map id), some k, some v => (match H.get id with
      | some (.map es c) => bif Nat.ble G id then (match findE q k es with
        | some (some _) => (match updE q k v es with | some es' => R.up undefA nx (H.put id (.map es' c)) | none => .no)
        | some none => R.up undefA nx (H.put id (.map (es ++ [⟨k, v, c⟩]) (Nat.succ c)))
        | none => .no) else .no
      | _ => .no)
    | _, _, _ => .no)
  | .range true x => (match opd tm x with | some (.str l) => R.new (.ptr nx 0) H nx (.siter l 0) | _ => .no)
  | .range false x => (match opd tm x with
    | some .nilMap => R.new (.ptr nx 0) H nx (.iter none 0 [] 0)
    | some (.map id) => (match H.get id with | some (.map _ c) => R.new (.ptr nx 0) H nx (.iter (some id) c [] c) | _ => .no)
    | _ => .no)
  | .next true x => (match opd tm x with
    | some (.ptr id 0) => (match H.get id with
      | some (.siter l pos) => (match l[pos]? with
        | none => .v (.tup (.cons (.bool false) .nil)) H nx
        | some c => bif Nat.blt c 128 && Nat.ble G id then R.up (.tup (.cons (.bool true) (.cons (.int .i64 (.ofNat pos)) (.cons (.int .i32 (.ofNat c)) .nil)))) nx (H.put id (.siter l (Nat.succ pos))) else .no)
      | _ => .no)
    | _ => .no)
  | .next false x => (match opd tm x with
    | some (.ptr id 0) => (match H.get id with
      | some (.iter none _ _ _) => .v (.tup (.cons (.bool false) .nil)) H nx
      | some (.iter (some m) since seen last) => (match H.get m with
        | some (.map es clock) => bif !seen.isEmpty && !es.isEmpty && es.all (fun e => Nat.ble last e.born) then .no else (match es.filter fun e => !seen.contains e.born with
           | [] => .v (.tup (.cons (.bool false) .nil)) H nx
           | [e] => bif Nat.blt e.born since && Nat.ble G id then R.up (.tup (.cons (.bool true) (.cons e.key (.cons e.val .nil)))) nx (H.put id (.iter (some m) since (seen ++ [e.born]) clock)) else .no
           | _ => .no)
        | _ => .no)
      | _ => .no)
    | _ => .no)
  | .append s e x y => (match opd tm x, opd tm y with | some a, some b => appendA G H nx s e a b | _, _ => .no)
  | .copy s d x => (match opd tm d, opd tm x with
    | some d, some x => (match srcA H s x with
      | some (l, m) => (match d with
        | .nilSl | .slE => .v (.int .i64 (.ofNat 0)) H nx
        | .sl id off len _ => (match Nat.min m len with
          | n => (match l.part 0 (Nat.mul n s) with | some l => R.up (.int .i64 (.ofNat n)) nx (wrAt G H id off l) | none => .no))
        | _ => .no)
      | none => .no)
    | _, _ => .no)
  | .delete q m k => (match opd tm m, opd tm k with
    | some .nilMap, some k => .v undefA H nx
    | some (.map id), some k => (match H.get id with
      | some (.map es c) => bif Nat.ble G id then (match delE q k es with | some es' => R.up undefA nx (H.put id (.map es' c)) | none => .no) else .no
      | _ => .no)
    | _, _ => .no)
  | .minmax mx xs => (match opds tm xs with | some (.cons x l) => R.of H nx (mmA mx x l) | _ => .no)
  | .ustr e x n => (match opd tm x, natOf (opd tm n) with
    | some .nilPtr, some 0 => .v (.str []) H nx
    | some (.ptr id off), some (n + 1) => (match H.get id with
      | some (.cells c _ _ el) => (match getCells c off (n + 1) with
        | some l => (match natsA l, H.put id .dead with | some l, some H' => bif Nat.ble G id && Nat.beq el e && Nat.ble n 100000 then .v (.str l) H' nx else .no | _, _ => .no)
        | none => .no)
      | _ => .no)
    | _, _ => .no)
  | .call (.val f) xs => (match opd tm f, opds tm xs with
    | some (.fn (.func f) first cap), some args => .call f (first.app (args.app cap))
    | _, _ => .no)
  | .call (.inv r name) xs => (match opd tm r, opds tm xs with
    | some (.iface t v), some args => (match methodOf P t name with | some f => .call f (.cons v args) | none => .no)
    | _, _ => .no)
  | .defer f xs => (match opd tm f, opds tm xs with
    | some (.fn (.func f) first cap), some args => .defer f (first.app (args.app cap))
    | _, _ => .no)
  | _ => .no

/-- which: 0 alone, 1 looks, 2 makes, 3 acts -/
def kind (co : COp) : Nat :=
  match co with
  | .load .. | .loads .. | .slice .. | .len .. | .lenC .. | .cap .. | .lookup .. | .toStr .. | .bytesStr .. | .toUp .. | .fromUp .. | .sdata .. => 1
  | .alloc .. | .box .. | .bslice .. | .mkmap | .mkslice .. | .toBytes .. => 2
  | .store .. | .mapupd .. | .range .. | .next .. | .append ..  | .copy .. | .delete .. | .ustr .. | .call .. | .defer .. | .minmax .. => 3
  | _ => 0

/-! ### code -/
structure CE where
  dst : Option Nat
  guard : Option (Nat × Bool)
  kd : Nat
  co : COp
  /-- what was read ahead, and is to be read alike behind this one -/
  chk : List (Option (Nat × Bool) × COp × Nat)

inductive CC where
  | bad
  | skip
  | ret
  | exit (id : Nat)
  | seq (a b : CC)
  | cond (c : CO) (a b : CC)
  | block (id : Nat) (b : CC)
  | loop (b : CC)
  | ops (l : List CE)

def cGuard (ops : Array Oper) (g : Option (Nat × Bool)) : Option (Option (Nat × Bool)) :=
  match g with
  | none => some none
  | some (j, want) => (match ops[j]? with | some o => (match o.dst with | some d => some (some (d, want)) | none => none) | none => none)

def cOper (P : Program) (G : Nat) (N : Nat) (ops : Array Oper) (o : Oper) : Option CE :=
  match cOp P G o.op, cGuard ops o.guard with
  | some co, some g => (match o.dst with
    | none => some ⟨none, g, kind co, co, []⟩
    | some d => bif Nat.blt d N then some ⟨some d, g, kind co, co, []⟩ else none)
  | _, _ => none

def cOpers (P : Program) (G : Nat) (N : Nat) (ops : Array Oper) : List Oper → Option (List CE)
  | [] => some []
  | o :: l => (match cOper P G N ops o, cOpers P G N ops l with | some a, some b => some (a :: b) | _, _ => none)

/-! the drawn order -/
def anyEdges (o : Oper) : List Nat := o.after.toList.filterMap fun e => bif Region.binds .any e then some e.on else none

/-! the names that an operation looks at -/
def CO.see : CO → List Nat | .t i => [i] | .c _ => []
def seeO : Option CO → List Nat | none => [] | some x => x.see
def seeP : List (Nat × Nat × CO) → List Nat | [] => [] | x :: l => x.2.2.see ++ seeP l
def seeL : List CO → List Nat | [] => [] | x :: l => x.see ++ seeL l
def seeC : Cal → List Nat | .val x => x.see | .inv x _ => x.see
def COp.sees : COp → List Nat
  | .mv x | .not x | .neg x | .toInt _ x | .nilchk x | .iface _ x | .faddr _ x | .field _ x | .fields _ _ x | .extract _ x | .asC _ _ x | .asI _ _ x => x.see
  | .load x | .loads _ x | .len _ x | .lenC _ x | .cap x | .toStr x | .bytesStr x | .toUp x | .fromUp _ _ x | .sdata x | .box _ x | .toBytes _ x | .range _ x | .next _ x => x.see
  | .pick c a b => c.see ++ (a.see ++ b.see)
  | .bin _ x y | .eq _ _ x y => x.see ++ y.see
  | .func _ a c => seeL a ++ seeL c
  | .idxA _ _ x i | .idxS _ x i | .idxStr x i | .idxV _ _ x i | .idxVs _ _ x i => x.see ++ i.see
  | .build _ ps => seeP ps
  | .slStr x lo hi => x.see ++ (seeO lo ++ seeO hi)
  | .slArr _ _ x lo hi mx => x.see ++ (seeO lo ++ (seeO hi ++ seeO mx))
  | .slice _ x lo hi mx => x.see ++ (seeO lo ++ (seeO hi ++ seeO mx))
  | .lookup _ _ _ m k => m.see ++ k.see
  | .alloc _ _ | .mkmap => []
  | .bslice _ _ _ _ ps => seeP ps
  | .mkslice _ _ _ l c => l.see ++ c.see
  | .store _ a x => a.see ++ x.see
  | .mapupd _ m k v => m.see ++ (k.see ++ v.see)
  | .append _ _ x y | .copy _ x y => x.see ++ y.see
  | .delete _ m k => m.see ++ k.see
  | .minmax _ xs => seeL xs
  | .ustr _ x n => x.see ++ n.see
  | .call c xs => seeC c ++ seeL xs
  | .defer c xs => c.see ++ seeL xs
def seeG : Option (Nat × Bool) → List Nat | none => [] | some g => [g.1]
def CE.sees (c : CE) : List Nat := seeG c.guard ++ c.co.sees
def hvy (c : CE) : Bool := Nat.beq c.kd 3

/-- sets of places, as bits -/
def bit (s i : Nat) : Bool := Nat.beq (Nat.mod (Nat.div s (Nat.pow 2 i)) 2) 1

/-- an operation that is placed: its place, itself, all that stand ahead of it -/
structure Pd where
  i : Nat
  ce : CE
  pre : Nat
  hv : Bool
/-- an operation that is to be placed: does it stand in the row of those that act? -/
structure Pl where
  i : Nat
  ed : List Nat
  ce : CE
  hv : Bool

def bz (c t e : Bool) : Bool := Bool.rec (motive := fun _ => Bool) e t c
def bn (c : Bool) : Bool := Bool.rec (motive := fun _ => Bool) true false c
def bitsOf (l : List Nat) : Nat := List.rec (motive := fun _ => Nat) 0 (fun d _ ih => Nat.lor (Nat.pow 2 d) ih) l
def dBit (d : Option Nat) : Nat := Option.rec (motive := fun _ => Nat) 0 (fun d => Nat.pow 2 d) d
/-- have they none in common? -/
def apartB (a b : Nat) : Bool := Nat.beq (Nat.land a b) 0
def CE.sb (c : CE) : Nat := bitsOf c.sees
def CE.db (c : CE) : Nat := dBit c.dst

/-- all that stand ahead: what is placed last is looked at first -/
def preGo (pl : List Pd) : Nat → Nat := List.rec (motive := fun _ => Nat → Nat) (fun s => s) (fun p _ ih s => ih (Bool.rec (motive := fun _ => Nat) s (Nat.lor s p.pre) (bit s p.i))) pl
def preOf (pl : List Pd) (ed : List Nat) : Nat := preGo pl (bitsOf ed)
def lastHv (pl : List Pd) : Option Nat := List.rec (motive := fun _ => Option Nat) none (fun p _ ih => Bool.rec (motive := fun _ => Option Nat) ih (some p.i) p.hv) pl
def dnOf (pl : List Pd) : Nat := List.rec (motive := fun _ => Nat) 0 (fun p _ ih => Nat.lor (Nat.pow 2 p.i) ih) pl

/-- may x stand behind p? -/
def okOne (p : Pd) (x : Pl) (pre sx dx : Nat) : Bool :=
  bz (bz (apartB sx p.ce.db) true (bit pre p.i)) (bz (apartB p.ce.db dx) (bz p.hv true (bz (apartB p.ce.sb dx) true (bz x.hv (bit pre p.i) false))) false) false
/-- the same, reckoned: nothing may be left -/
def nbit (s i : Nat) : Nat := Nat.sub 1 (Nat.mod (Nat.div s (Nat.pow 2 i)) 2)
def okOneN (p : Pd) (x : Pl) (pre sx dx : Nat) : Bool :=
  Nat.beq (Nat.add (Nat.mul (Nat.land sx p.ce.db) (nbit pre p.i)) (Nat.add (Nat.land p.ce.db dx) (Bool.rec (motive := fun _ => Nat) (Nat.mul (Nat.land p.ce.sb dx) (Bool.rec (motive := fun _ => Nat) 1 (nbit pre p.i) x.hv)) 0 p.hv))) 0
def okAll (pl : List Pd) (x : Pl) (pre sx dx : Nat) : Bool := List.rec (motive := fun _ => Bool) true (fun p _ ih => bz (okOneN p x pre sx dx) ih false) pl
def hasLast (l : Option Nat) (pre : Nat) : Bool := Option.rec (motive := fun _ => Bool) true (fun k => bit pre k) l
def isSomeN (d : Option Nat) : Bool := Option.rec (motive := fun _ => Bool) false (fun _ => true) d

/-- may it be placed here? -/
def okPl (pl : List Pd) (x : Pl) (pre : Nat) : Bool :=
  bz (bit (dnOf pl) x.i) false (bz (Nat.beq (Nat.land (bitsOf x.ed) (dnOf pl)) (bitsOf x.ed)) (bz (hasLast (lastHv pl) pre) (bz (okAll pl x pre x.ce.sb x.ce.db)
    (bz (bz x.hv true (apartB x.ce.sb x.ce.db)) (bz (bz (Nat.beq x.ce.kd 1) (isSomeN x.ce.dst) true) (bz x.hv (bn (Nat.beq x.ce.kd 2)) (bn (Nat.beq x.ce.kd 3))) false) false) false) false) false)

/-- what is read again behind one that acts -/
def chkOf (pre : Nat) (pl : List Pd) : List (Option (Nat × Bool) × COp × Nat) :=
  List.rec (motive := fun _ => List (Option (Nat × Bool) × COp × Nat)) [] (fun q _ ih => Bool.rec (motive := fun _ => List (Option (Nat × Bool) × COp × Nat)) ih
    (Option.rec (motive := fun _ => List (Option (Nat × Bool) × COp × Nat)) ih (fun d => (q.ce.guard, q.ce.co, d) :: ih) q.ce.dst) (bz (Nat.beq q.ce.kd 1) (bn (bit pre q.i)) false)) pl
def withChk (pl : List Pd) (pre : Nat) (c : CE) : CE := Bool.rec (motive := fun _ => CE) c { c with chk := chkOf pre pl } (hvy c)

/-- those that act stand in one row; the others as early as may be -/
def draws : List Pd → List Pl → Option (List CE)
  | _, [] => some []
  | pl, x :: rest => (match preOf pl x.ed with
    | pre => bif okPl pl x pre then (match draws (⟨x.i, x.ce, pre, x.hv⟩ :: pl) rest with | some l => some (withChk pl pre x.ce :: l) | none => none) else none)
termination_by structural _ l => l

/-- an operation of a drawn region, as it is written: made a thing to be placed (it acts, or writes what one ahead of it looks at, or itself) -/
def zipC (ih : List CE → Nat → Nat → List Pl) (o : Oper) (c : CE) (m : List CE) (i seen : Nat) : List Pl := ⟨i, anyEdges o, c, bz (hvy c) true (bn (apartB seen c.db))⟩ :: ih m (Nat.succ i) seen
def zipO (o : Oper) (ih : List CE → Nat → Nat → List Pl) (m : List CE) (i seen : Nat) : List Pl := List.rec (motive := fun _ => List Pl) [] (fun c m' _ => zipC ih o c m' i (Nat.lor seen c.sb)) m
def zipPl (l : List Oper) : List CE → Nat → Nat → List Pl := List.rec (motive := fun _ => List CE → Nat → Nat → List Pl) (fun _ _ _ => []) (fun o _ ih => zipO o ih) l
/-- the order: found, not proved: all ready ones that don't act, then one that acts, and so on -/
def rdy (x : Pl) (done : Nat) : Bool := Nat.beq (Nat.land (bitsOf x.ed) done) (bitsOf x.ed)
def passC (x : Pl) (ih : Nat → (Nat → List Pl → List Pl) → List Pl) (done : Nat) (k : Nat → List Pl → List Pl) : List Pl :=
  Bool.rec (motive := fun _ => List Pl) (ih done (fun d r => k d (x :: r))) (x :: ih (Nat.lor done (Nat.pow 2 x.i)) k) (bz x.hv false (rdy x done))
def passGo (l : List Pl) : Nat → (Nat → List Pl → List Pl) → List Pl := List.rec (motive := fun _ => Nat → (Nat → List Pl → List Pl) → List Pl) (fun done k => k done []) (fun x _ ih => passC x ih) l
def hvC (x : Pl) (t : List Pl) (ih : Nat → (Pl → List Pl → List Pl) → List Pl) (done : Nat) (k : Pl → List Pl → List Pl) : List Pl := Bool.rec (motive := fun _ => List Pl) (ih done (fun y r => k y (x :: r))) (k x t) (rdy x done)
def hvGo (l : List Pl) : Nat → (Pl → List Pl → List Pl) → List Pl := List.rec (motive := fun _ => Nat → (Pl → List Pl → List Pl) → List Pl) (fun _ _ => []) (fun x t ih => hvC x t ih) l
def ordN (n : Nat) : Nat → List Pl → List Pl := Nat.rec (motive := fun _ => Nat → List Pl → List Pl) (fun _ _ => []) (fun _ ih done l => passGo l done (fun d r => hvGo r d (fun y r => y :: ih (Nat.lor d (Nat.pow 2 y.i)) r))) n
def drawZ (n : Nat) (ps : List Pl) : Option (List CE) := bif Nat.beq ps.length n && (List.range n).all (bit (bitsOf (ps.map (·.i)))) then draws [] ps else none
def cDraw (P : Program) (G : Nat) (N : Nat) (ops : Array Oper) : Option (List CE) :=
  match cOpers P G N ops ops.toList with
  | none => none
  | some ces => drawZ ops.size (ordN ops.size 0 (zipPl ops.toList ces 0 0))

def cCode (P : Program) (G : Nat) (N : Nat) : Code → CC
  | .skip => .skip
  | .ret => .ret
  | .exit id => .exit id
  | .label _ => .skip
  | .seq a b => .seq (cCode P G N a) (cCode P G N b)
  | .cond c a b => (match opdOf G c with | some c => .cond c (cCode P G N a) (cCode P G N b) | none => .bad)
  | .block id b => .block id (cCode P G N b)
  | .loop b => .loop (cCode P G N b)
  | .scope b => cCode P G N b
  | .region _ ops draw => bif draw then (match cDraw P G N ops with | some l => .ops l | none => .bad) else (match cOpers P G N ops ops.toList with | some l => .ops l | none => .bad)
  | _ => .bad


/-! the same, the types looked up in a tree: quicker in the kernel -/
def treeOf : List TypeInfo → Nat → T TypeInfo → Option (T TypeInfo)
  | [], _, t => some t
  | x :: l, i, t => (match t.put i x with | some t' => treeOf l (Nat.succ i) t' | none => none)
def tyTree (P : Program) : T TypeInfo := match treeOf P.types.toList 0 .e with | some t => t | none => .e
def infoF (P : Program) (t : Nat) : Option TypeInfo := match (tyTree P).get t with | some i => some i | none => P.info? t
def treeFn : List Func → Nat → T Func → Option (T Func)
  | [], _, t => some t
  | x :: l, i, t => (match t.put i x with | some t' => treeFn l (Nat.succ i) t' | none => none)
def fnTree (P : Program) : T Func := match treeFn P.funcs.toList 0 .e with | some t => t | none => .e
def fnF (P : Program) (f : Nat) : Option Func := match (fnTree P).get f with | some i => some i | none => P.funcs[f]?
def undF (P : Program) (t : Nat) : Option TypeDesc :=
  match infoF P t with
  | some i => (match i.desc with
    | .named _ u => (match infoF P u with | some j => some j.desc | none => none)
    | d => some d)
  | none => none
section typesY
variable (P : Program) (G : Nat)
def tySizeY (t : Nat) : Option Nat := match infoF P t with | some i => some i.size | none => none
def tyAggY (t : Nat) : Option Bool := match undF P t with | some (.struct _) | some (.array _ _) => some true | some _ => some false | none => none
def tyZeroY (t : Nat) : Option AV := match infoF P t with | some i => (match i.zero with | some v => conv 3000 v | none => none) | none => none
def smallBytesY (t : Nat) : Bool := match infoF P t with | some i => Nat.ble i.bytes 1000000 | none => false
def tyZeroCY (t : Nat) : Option AV := match tyZeroY P t with | some z => some z.cells | none => none
def tyFieldY (s f : Nat) : Option (Nat × Nat) := match undF P s with | some (.struct fs) => (match fs[f]? with | some x => some (x.type, x.offset) | none => none) | _ => none
def tySliceY (t : Nat) : Option (Nat × Nat) := match undF P t with | some (.slice e) => (match tySizeY P e with | some s => some (e, s) | none => none) | _ => none
def tyArrY (t : Nat) : Option (Nat × Nat × Nat) := match undF P t with | some (.array n e) => (match tySizeY P e with | some s => some (n, e, s) | none => none) | _ => none
def sizedY : List Field → Bool
  | [] => true
  | f :: l => (match tySizeY P f.type with | some _ => sizedY l | none => false)
def partsSY (t : Nat) : List (Nat × Operand) → Option (List (Nat × Nat × CO))
  | [] => some []
  | (i, x) :: l => (match tyFieldY P t i with
    | some (ft, off) => (match tySizeY P ft, opdOf G x, partsSY t l with | some s, some a, some b => some ((off, s, a) :: b) | _, _, _ => none)
    | none => none)
def partsAY (G : Nat) (s : Nat) : List (Nat × Operand) → Option (List (Nat × Nat × CO))
  | [] => some []
  | (i, x) :: l => (match opdOf G x, partsAY G s l with | some a, some b => some ((i * s, s, a) :: b) | _, _ => none)


def eqSOfY (t : Nat) : Option EqS :=
  match undF P t with
  | some .bool => some .bool
  | some (.int _) => some .int
  | some .string => some .str
  | some (.pointer e) => (match tySizeY P e with | some (_ + 1) => some .ptr | _ => none)
  | some (.slice _) => some .slice
  | some (.map _ _) => some .map
  | some (.func _ _ _) => some .func
  | some (.interface _) => some .iface
  | _ => none
def eqFieldsY : List Field → Option (List (Nat × EqS))
  | [] => some []
  | f :: l => (match eqSOfY P f.type, eqFieldsY l with | some k, some m => bif f.name == "_" then none else some ((f.offset, k) :: m) | _, _ => none)
def eqKOfY (t : Nat) (cst : Bool) : Option EqK :=
  match eqSOfY P t with
  | some .iface => bif cst then some (.s .iface) else none
  | some k => some (.s k)
  | none => (match undF P t with
    | some (.struct fs) => bif P.stoodInHeld t || P.eqGuardType P.depth t then none else (match eqFieldsY P fs.toList with | some l => some (.flat l) | none => none)
    | _ => none)
def keyKindY (t : Nat) : Option EqS :=
  match undF P t with
  | some .bool => some .bool
  | some (.int _) => some .int
  | some .string => some .str
  | _ => none
def mapKindY (t : Nat) : Option EqS := match undF P t with | some (.map k _) => keyKindY P k | _ => none

def cConvertY (s d : Nat) (x : CO) : Option COp :=
  match undF P s, undF P d with
  | some (.int _), some (.int k) => some (.toInt k x)
  | some (.string), some .string => some (.toStr x)
  | some (.int _), some .string => some (.toStr x)
  | some (.slice e), some .string => (match undF P e with | some (.int .u8) => some (.bytesStr x) | _ => none)
  | some .string, some (.slice e) => (match undF P e with | some (.int .u8) => some (.toBytes e x) | _ => none)
  | some (.pointer t), some .unsafePointer => (match tySizeY P t with | some (_ + 1) => some (.toUp x) | _ => none)
  | some .unsafePointer, some (.pointer u) => (match tySizeY P u with | some (n + 1) => some (.fromUp u (n + 1) x) | _ => none)
  | _, _ => none

def cBuiltinY (b : Builtin) (ts : List Nat) (xs : List CO) : Option COp :=
  match b, ts, xs with
  | .len, [t], [x] => (match undF P t with
    | some .string => some (.len .str x)
    | some (.slice _) => some (.len .slice x)
    | some (.map _ _) => some (.len .map x)
    | some (.array n _) => some (.lenC n x)
    | some (.pointer a) => (match undF P a with | some (.array n _) => some (.lenC n x) | _ => none)
    | _ => none)
  | .cap, [t], [x] => (match undF P t with | some (.slice _) => some (.cap x) | _ => none)
  | .append, [t, u], [x, y] => (match tySliceY P t, undF P u with
    | some (e, s), some (.int _) => none
    | some (e, s), some _ => (match tyZeroCY P e with | some z => bif Nat.beq z.len s && smallBytesY P e && Nat.blt 0 s then some (.append s e x y) else none | none => none)
    | _, _ => none)
  | .copy, [t, _], [x, y] => (match tySliceY P t with | some (_, s) => some (.copy s x y) | none => none)
  | .min, _, xs => some (.minmax false xs)
  | .max, _, xs => some (.minmax true xs)
  | .delete, [t, _], [m, k] => o1 (mapKindY P t) fun q => some (.delete q m k)
  | .unsafeSliceData, _, [x] => some (.sdata x)
  | .unsafeString, t :: _, [x, n] => (match undF P t with | some (.pointer e) => (match tySizeY P e with | some 1 => some (.ustr e x n) | _ => none) | _ => none)
  | _, _, _ => none

def cOpY (op : Op) : Option COp :=
  match op with
  | .move x | .assign x => o1 (opdOf G x) fun a => some (.mv a)
  | .pick c a b => o1 (opdOf G c) fun c => o1 (opdOf G a) fun a => o1 (opdOf G b) fun b => some (.pick c a b)
  | .alloc t => o1 (tyZeroCY P t) fun z => some (.alloc z t)
  | .box t x => o1 (opdOf G x) fun x => some (.box t x)
  | .build t ps => (match tyZeroCY P t, undF P t with
    | some z, some (.struct fs) => bif sizedY P fs.toList then o1 (partsSY P G t ps.toList) fun l => some (.build z l) else none
    | some z, some (.array _ e) => o1 (tySizeY P e) fun s => o1 (partsAY G s ps.toList) fun l => some (.build z l)
    | _, _ => none)
  | .buildSlice t len ps => o1 (tySliceY P t) fun es => o1 (tyZeroCY P es.1) fun z => o1 (partsAY G es.2 ps.toList) fun l => bif Nat.beq z.len es.2 && Nat.ble (Nat.mul len es.2) 100000 && Nat.blt 0 es.2 then some (.bslice (z.rep len) len es.2 es.1 l) else none
  | .load t a => o1 (opdOf G a) fun x => o1 (tyAggY P t) fun g => bif g then o1 (tySizeY P t) fun n => some (.loads n x) else some (.load x)
  | .store t a x => o1 (opdOf G a) fun a => o1 (opdOf G x) fun x => o1 (tySizeY P t) fun n => some (.store n a x)
  | .nilCheck x => o1 (opdOf G x) fun x => some (.nilchk x)
  | .binOp op t x y _ => o1 (opdOf G x) fun x' => o1 (opdOf G y) fun y' => (match op with
    | .eql => o1 (eqKOfY P t (Region.isConst x || Region.isConst y)) fun k => some (.eq false k x' y')
    | .neq => o1 (eqKOfY P t (Region.isConst x || Region.isConst y)) fun k => some (.eq true k x' y')
    | op => some (.bin op x' y'))
  | .unOp op _ x => o1 (opdOf G x) fun x => (match op with | .not => some (.not x) | .neg => some (.neg x) | _ => none)
  | .convert s d x => o1 (opdOf G x) fun x => cConvertY P s d x
  | .makeInterface t x => o1 (opdOf G x) fun x => (match undF P t with | some (.interface _) => none | some _ => some (.iface t x) | none => none)
  | .makeFunc f a c => o1 (opdsOf G a.toList) fun a => o1 (opdsOf G c.toList) fun c => some (.func f a c)
  | .makeMap t r => (match r with | none => some .mkmap | some (.const (.int _ _)) => (match undF P t with | some (.map _ _) => some .mkmap | _ => none) | _ => none)
  | .makeSlice t l c => o1 (tySliceY P t) fun es => o1 (tyZeroCY P es.1) fun z => o1 (opdOf G l) fun l => o1 (opdOf G c) fun c => bif Nat.beq z.len es.2 && smallBytesY P es.1 && Nat.blt 0 es.2 then some (.mkslice z es.2 es.1 l c) else none
  | .slice t x lo hi mx => o1 (opdOf G x) fun x => o1 (opdO G lo) fun lo => o1 (opdO G hi) fun hi => o1 (opdO G mx) fun mx =>
    bif mx.isSome && !hi.isSome then none else (match undF P t with
    | some .string => bif mx.isSome then none else some (.slStr x lo hi)
    | some (.slice e) => o1 (tySizeY P e) fun s => some (.slice s x lo hi mx)
    | some (.array n e) => o1 (tySizeY P e) fun s => some (.slArr n s x lo hi mx)
    | some (.pointer a) => o1 (tyArrY P a) fun q => some (.slArr q.1 q.2.2 x lo hi mx)
    | _ => none)
  | .fieldAddr s x f => o1 (tyFieldY P s f) fun fo => (match tySizeY P fo.1 with | some (_ + 1) => o1 (opdOf G x) fun x => some (.faddr fo.2 x) | _ => none)
  | .field t x f => o1 (tyFieldY P t f) fun fo => o1 (opdOf G x) fun x => o1 (tyAggY P fo.1) fun g => bif g then o1 (tySizeY P fo.1) fun n => some (.fields fo.2 n x) else some (.field fo.2 x)
  | .indexAddr t x i => o1 (opdOf G x) fun x => o1 (opdOf G i) fun i => (match undF P t with
    | some (.array n e) => o1 (tySizeY P e) fun s => some (.idxA n s x i)
    | some (.slice e) => o1 (tySizeY P e) fun s => some (.idxS s x i)
    | _ => none)
  | .index t x i => o1 (opdOf G x) fun x => o1 (opdOf G i) fun i => (match undF P t with
    | some .string => some (.idxStr x i)
    | some (.array n e) => o1 (tySizeY P e) fun s => o1 (tyAggY P e) fun g => bif g then some (.idxVs n s x i) else some (.idxV n s x i)
    | _ => none)
  | .lookup t m k ok => (match undF P t with
    | some (.map kt e) => o1 (keyKindY P kt) fun q => o1 (tyZeroY P e) fun z => o1 (opdOf G m) fun m => o1 (opdOf G k) fun k => some (.lookup q z ok m k)
    | _ => none)
  | .mapUpdate t m k v | .insert t m k v => o1 (mapKindY P t) fun q => o1 (opdOf G m) fun m => o1 (opdOf G k) fun k => o1 (opdOf G v) fun v => some (.mapupd q m k v)
  | .range t x => o1 (opdOf G x) fun x => (match undF P t with | some .string => some (.range true x) | some (.map _ _) => some (.range false x) | _ => none)
  | .next it s => o1 (opdOf G it) fun x => some (.next s x)
  | .typeAssert x _ t ok => o1 (opdOf G x) fun x => (match undF P t with
    | some (.interface want) => bif ok then o1 (tyZeroY P t) fun z => some (.asI want.toList (some z) x) else some (.asI want.toList none x)
    | some _ => bif ok then o1 (tyZeroY P t) fun z => some (.asC t (some z) x) else some (.asC t none x)
    | none => none)
  | .extract x i => o1 (opdOf G x) fun x => some (.extract i x)
  | .call c => o1 (opdsOf G c.args.toList) fun xs => (match c.callee with
    | .builtin b => cBuiltinY P b c.argTypes.toList xs
    | .value f => o1 (opdOf G f) fun f => some (.call (.val f) xs)
    | .invoke r name => o1 (opdOf G r) fun r => some (.call (.inv r name) xs))
  | .defer c => o1 (opdsOf G c.args.toList) fun xs => (match c.callee with
    | .value f => o1 (opdOf G f) fun f => some (.defer f xs)
    | _ => none)
  | _ => none
/-! each operation by itself -/
/-- the same by recursors over closed constants: quicker in the kernel -/
def oB {α β : Type} (x : Option α) (f : α → Option β) : Option β := Option.rec (motive := fun _ => Option β) none f x
def vk_bool (b : Bool) (_ : Value) : Option CO := some (.c (.bool b))
def vk_int (k : IntKind) (n : Int) (_ : Value) : Option CO := some (.c (.int k n))
def vk_any (v : Value) : Option CO := match conv 600 v with | some x => some (.c x) | none => none
def constK (v : Value) : Option CO := Value.rec (motive_1 := fun _ => Value → Option CO) (motive_2 := fun _ => Unit) (motive_3 := fun _ => Unit) vk_bool vk_int (fun _ _ => vk_any) (fun _ _ _ => vk_any) (fun _ => vk_any) (fun _ => vk_any) (fun _ _ _ => vk_any) (fun _ => vk_any) (fun _ => vk_any) (fun _ _ _ _ _ => vk_any) vk_any (fun _ _ _ => vk_any) vk_any (fun _ _ => vk_any) (fun _ _ => vk_any) (fun _ _ => ()) () (fun _ _ _ _ => ()) v v
def ok_tmp (i : Nat) (_ : Nat) : Option CO := some (.t i)
def ok_const (v : Value) (_ : Nat) : Option CO := constK v
def ok_glob (g : Nat) (G : Nat) : Option CO := bif Nat.blt g G then some (.c (.ptr g 0)) else none
def ok_func (f : Nat) (_ : Nat) : Option CO := some (.c (.fn (.func f) .nil .nil))
def opdK (G : Nat) (x : Operand) : Option CO := Operand.rec (motive := fun _ => Nat → Option CO) ok_tmp ok_const ok_glob ok_func x G
def consK {α : Type} (a : Option α) (b : Option (List α)) : Option (List α) := oB a fun a => oB b fun b => some (a :: b)
def opdsK (G : Nat) (l : List Operand) : Option (List CO) := List.rec (motive := fun _ => Option (List CO)) (some []) (fun x _ ih => consK (opdK G x) ih) l
def kOp_move (x : Operand) : Option COp := oB (opdK G x) fun a => some (.mv a)
def kOp_pick (c : Operand) (a : Operand) (b : Operand) : Option COp := oB (opdK G c) fun c => oB (opdK G a) fun a => oB (opdK G b) fun b => some (.pick c a b)
def kOp_alloc (t : Nat) : Option COp := oB (tyZeroCY P t) fun z => some (.alloc z t)
def kOp_box (t : Nat) (x : Operand) : Option COp := oB (opdK G x) fun x => some (.box t x)
def kOp_build (t : Nat) (ps : Array (Nat × Operand)) : Option COp := (match tyZeroCY P t, undF P t with
    | some z, some (.struct fs) => bif sizedY P fs.toList then oB (partsSY P G t ps.toList) fun l => some (.build z l) else none
    | some z, some (.array _ e) => oB (tySizeY P e) fun s => oB (partsAY G s ps.toList) fun l => some (.build z l)
    | _, _ => none)
def kOp_buildSlice (t : Nat) (len : Nat) (ps : Array (Nat × Operand)) : Option COp := oB (tySliceY P t) fun es => oB (tyZeroCY P es.1) fun z => oB (partsAY G es.2 ps.toList) fun l => bif Nat.beq z.len es.2 && Nat.ble (Nat.mul len es.2) 100000 && Nat.blt 0 es.2 then some (.bslice (z.rep len) len es.2 es.1 l) else none
def kOp_load (t : Nat) (a : Operand) : Option COp := oB (opdK G a) fun x => oB (tyAggY P t) fun g => bif g then oB (tySizeY P t) fun n => some (.loads n x) else some (.load x)
def kOp_store (t : Nat) (a : Operand) (x : Operand) : Option COp := oB (opdK G a) fun a => oB (opdK G x) fun x => oB (tySizeY P t) fun n => some (.store n a x)
def kOp_nilCheck (x : Operand) : Option COp := oB (opdK G x) fun x => some (.nilchk x)
def kOp_binOp (op : BinOp) (t : Nat) (x : Operand) (y : Operand) : Option COp := oB (opdK G x) fun x' => oB (opdK G y) fun y' => (match op with
    | .eql => oB (eqKOfY P t (Region.isConst x || Region.isConst y)) fun k => some (.eq false k x' y')
    | .neq => oB (eqKOfY P t (Region.isConst x || Region.isConst y)) fun k => some (.eq true k x' y')
    | op => some (.bin op x' y'))
def kOp_unOp (op : UnOp) (x : Operand) : Option COp := oB (opdK G x) fun x => (match op with | .not => some (.not x) | .neg => some (.neg x) | _ => none)
def kOp_convert (s : Nat) (d : Nat) (x : Operand) : Option COp := oB (opdK G x) fun x => cConvertY P s d x
def kOp_makeInterface (t : Nat) (x : Operand) : Option COp := oB (opdK G x) fun x => (match undF P t with | some (.interface _) => none | some _ => some (.iface t x) | none => none)
def kOp_makeFunc (f : Fn) (a : Array Operand) (c : Array Operand) : Option COp := oB (opdsK G a.toList) fun a => oB (opdsK G c.toList) fun c => some (.func f a c)
def kOp_makeMap (t : Nat) (r : Option Operand) : Option COp := (match r with | none => some .mkmap | some (.const (.int _ _)) => (match undF P t with | some (.map _ _) => some .mkmap | _ => none) | _ => none)
def kOp_makeSlice (t : Nat) (l : Operand) (c : Operand) : Option COp := oB (tySliceY P t) fun es => oB (tyZeroCY P es.1) fun z => oB (opdK G l) fun l => oB (opdK G c) fun c => bif Nat.beq z.len es.2 && smallBytesY P es.1 && Nat.blt 0 es.2 then some (.mkslice z es.2 es.1 l c) else none
def kOp_slice (t : Nat) (x : Operand) (lo : Option Operand) (hi : Option Operand) (mx : Option Operand) : Option COp := oB (opdK G x) fun x => oB (opdO G lo) fun lo => oB (opdO G hi) fun hi => oB (opdO G mx) fun mx =>
    bif mx.isSome && !hi.isSome then none else (match undF P t with
    | some .string => bif mx.isSome then none else some (.slStr x lo hi)
    | some (.slice e) => oB (tySizeY P e) fun s => some (.slice s x lo hi mx)
    | some (.array n e) => oB (tySizeY P e) fun s => some (.slArr n s x lo hi mx)
    | some (.pointer a) => oB (tyArrY P a) fun q => some (.slArr q.1 q.2.2 x lo hi mx)
    | _ => none)
def kOp_fieldAddr (s : Nat) (x : Operand) (f : Nat) : Option COp := oB (tyFieldY P s f) fun fo => (match tySizeY P fo.1 with | some (_ + 1) => oB (opdK G x) fun x => some (.faddr fo.2 x) | _ => none)
def kOp_field (t : Nat) (x : Operand) (f : Nat) : Option COp := oB (tyFieldY P t f) fun fo => oB (opdK G x) fun x => oB (tyAggY P fo.1) fun g => bif g then oB (tySizeY P fo.1) fun n => some (.fields fo.2 n x) else some (.field fo.2 x)
def kOp_indexAddr (t : Nat) (x : Operand) (i : Operand) : Option COp := oB (opdK G x) fun x => oB (opdK G i) fun i => (match undF P t with
    | some (.array n e) => oB (tySizeY P e) fun s => some (.idxA n s x i)
    | some (.slice e) => oB (tySizeY P e) fun s => some (.idxS s x i)
    | _ => none)
def kOp_index (t : Nat) (x : Operand) (i : Operand) : Option COp := oB (opdK G x) fun x => oB (opdK G i) fun i => (match undF P t with
    | some .string => some (.idxStr x i)
    | some (.array n e) => oB (tySizeY P e) fun s => oB (tyAggY P e) fun g => bif g then some (.idxVs n s x i) else some (.idxV n s x i)
    | _ => none)
def kOp_lookup (t : Nat) (m : Operand) (k : Operand) (ok : Bool) : Option COp := (match undF P t with
    | some (.map kt e) => oB (keyKindY P kt) fun q => oB (tyZeroY P e) fun z => oB (opdK G m) fun m => oB (opdK G k) fun k => some (.lookup q z ok m k)
    | _ => none)
def kOp_mapUpdate (t : Nat) (m : Operand) (k : Operand) (v : Operand) : Option COp := oB (mapKindY P t) fun q => oB (opdK G m) fun m => oB (opdK G k) fun k => oB (opdK G v) fun v => some (.mapupd q m k v)
def kOp_range (t : Nat) (x : Operand) : Option COp := oB (opdK G x) fun x => (match undF P t with | some .string => some (.range true x) | some (.map _ _) => some (.range false x) | _ => none)
def kOp_next (it : Operand) (s : Bool) : Option COp := oB (opdK G it) fun x => some (.next s x)
def kOp_typeAssert (x : Operand) (t : Nat) (ok : Bool) : Option COp := oB (opdK G x) fun x => (match undF P t with
    | some (.interface want) => bif ok then oB (tyZeroY P t) fun z => some (.asI want.toList (some z) x) else some (.asI want.toList none x)
    | some _ => bif ok then oB (tyZeroY P t) fun z => some (.asC t (some z) x) else some (.asC t none x)
    | none => none)
def kOp_extract (x : Operand) (i : Nat) : Option COp := oB (opdK G x) fun x => some (.extract i x)
def kOp_call (c : Call) : Option COp := oB (opdsK G c.args.toList) fun xs => (match c.callee with
    | .builtin b => cBuiltinY P b c.argTypes.toList xs
    | .value f => oB (opdK G f) fun f => some (.call (.val f) xs)
    | .invoke r name => oB (opdK G r) fun r => some (.call (.inv r name) xs))
def kOp_defer (c : Call) : Option COp := oB (opdsK G c.args.toList) fun xs => (match c.callee with
    | .value f => oB (opdK G f) fun f => some (.defer f xs)
    | _ => none)
end typesY
section
def q_move (x : Operand) (P : Program) (G : Nat) : Option COp := kOp_move G x
def q_assign (x : Operand) (P : Program) (G : Nat) : Option COp := kOp_move G x
def q_pick (c : Operand) (a : Operand) (b : Operand) (P : Program) (G : Nat) : Option COp := kOp_pick G c a b
def q_alloc (t : Nat) (P : Program) (G : Nat) : Option COp := kOp_alloc P t
def q_box (t : Nat) (x : Operand) (P : Program) (G : Nat) : Option COp := kOp_box G t x
def q_build (t : Nat) (ps : Array (Nat × Operand)) (P : Program) (G : Nat) : Option COp := kOp_build P G t ps
def q_buildSlice (t : Nat) (len : Nat) (ps : Array (Nat × Operand)) (P : Program) (G : Nat) : Option COp := kOp_buildSlice P G t len ps
def q_insert (t : Nat) (m : Operand) (k : Operand) (v : Operand) (P : Program) (G : Nat) : Option COp := kOp_mapUpdate P G t m k v
def q_load (t : Nat) (a : Operand) (P : Program) (G : Nat) : Option COp := kOp_load P G t a
def q_store (t : Nat) (a : Operand) (x : Operand) (P : Program) (G : Nat) : Option COp := kOp_store P G t a x
def q_ready (g : Nat) (P : Program) (G : Nat) : Option COp := none
def q_waits (g : Nat) (P : Program) (G : Nat) : Option COp := none
def q_nilCheck (x : Operand) (P : Program) (G : Nat) : Option COp := kOp_nilCheck G x
def q_binOp (op : BinOp) (t : Nat) (x : Operand) (y : Operand) (z : Nat) (P : Program) (G : Nat) : Option COp := kOp_binOp P G op t x y
def q_unOp (op : UnOp) (z : Nat) (x : Operand) (P : Program) (G : Nat) : Option COp := kOp_unOp G op x
def q_convert (s : Nat) (d : Nat) (x : Operand) (P : Program) (G : Nat) : Option COp := kOp_convert P G s d x
def q_sliceToArrayPointer (d : Nat) (x : Operand) (P : Program) (G : Nat) : Option COp := none
def q_makeInterface (t : Nat) (x : Operand) (P : Program) (G : Nat) : Option COp := kOp_makeInterface P G t x
def q_makeFunc (f : Fn) (a : Array Operand) (c : Array Operand) (P : Program) (G : Nat) : Option COp := kOp_makeFunc G f a c
def q_makeMap (t : Nat) (r : Option Operand) (P : Program) (G : Nat) : Option COp := kOp_makeMap P t r
def q_makeChan (t : Nat) (x : Operand) (P : Program) (G : Nat) : Option COp := none
def q_makeSlice (t : Nat) (l : Operand) (c : Operand) (P : Program) (G : Nat) : Option COp := kOp_makeSlice P G t l c
def q_slice (t : Nat) (x : Operand) (lo : Option Operand) (hi : Option Operand) (mx : Option Operand) (P : Program) (G : Nat) : Option COp := kOp_slice P G t x lo hi mx
def q_fieldAddr (s : Nat) (x : Operand) (f : Nat) (P : Program) (G : Nat) : Option COp := kOp_fieldAddr P G s x f
def q_field (t : Nat) (x : Operand) (f : Nat) (P : Program) (G : Nat) : Option COp := kOp_field P G t x f
def q_indexAddr (t : Nat) (x : Operand) (i : Operand) (P : Program) (G : Nat) : Option COp := kOp_indexAddr P G t x i
def q_index (t : Nat) (x : Operand) (i : Operand) (P : Program) (G : Nat) : Option COp := kOp_index P G t x i
def q_lookup (t : Nat) (m : Operand) (k : Operand) (ok : Bool) (P : Program) (G : Nat) : Option COp := kOp_lookup P G t m k ok
def q_mapUpdate (t : Nat) (m : Operand) (k : Operand) (v : Operand) (P : Program) (G : Nat) : Option COp := kOp_mapUpdate P G t m k v
def q_mapEntry (t : Nat) (m : Operand) (k : Operand) (P : Program) (G : Nat) : Option COp := none
def q_entryStore (t : Nat) (m : Operand) (k : Operand) (v : Operand) (P : Program) (G : Nat) : Option COp := none
def q_range (t : Nat) (x : Operand) (P : Program) (G : Nat) : Option COp := kOp_range P G t x
def q_next (it : Operand) (s : Bool) (P : Program) (G : Nat) : Option COp := kOp_next G it s
def q_entry (x : Operand) (P : Program) (G : Nat) : Option COp := none
def q_typeAssert (x : Operand) (z : Nat) (t : Nat) (ok : Bool) (P : Program) (G : Nat) : Option COp := kOp_typeAssert P G x t ok
def q_extract (x : Operand) (i : Nat) (P : Program) (G : Nat) : Option COp := kOp_extract G x i
def q_call (c : Call) (P : Program) (G : Nat) : Option COp := kOp_call P G c
def q_go (c : Call) (P : Program) (G : Nat) : Option COp := none
def q_defer (c : Call) (P : Program) (G : Nat) : Option COp := kOp_defer G c
def q_panic (x : Operand) (P : Program) (G : Nat) : Option COp := none
def q_send (x : Operand) (y : Operand) (P : Program) (G : Nat) : Option COp := none
def q_recv (t : Nat) (x : Operand) (ok : Bool) (P : Program) (G : Nat) : Option COp := none
def q_select (cs : Array SelectCase) (b : Bool) (P : Program) (G : Nat) : Option COp := none
end
def cOpK (P : Program) (G : Nat) (op : Op) : Option COp := Op.rec (motive := fun _ => Program → Nat → Option COp) q_move q_assign q_pick q_alloc q_box q_build q_buildSlice q_insert q_load q_store q_ready q_waits q_nilCheck q_binOp q_unOp q_convert q_sliceToArrayPointer q_makeInterface q_makeFunc q_makeMap q_makeChan q_makeSlice q_slice q_fieldAddr q_field q_indexAddr q_index q_lookup q_mapUpdate q_mapEntry q_entryStore q_range q_next q_entry q_typeAssert q_extract q_call q_go q_defer q_panic q_send q_recv q_select op P G
def kindK (co : COp) : Nat := COp.rec (motive := fun _ => Nat) (fun _ => 0) (fun _ _ _ => 0) (fun _ _ _ => 0) (fun _ _ _ _ => 0) (fun _ => 0) (fun _ => 0) (fun _ _ => 0) (fun _ => 0) (fun _ _ => 0) (fun _ _ _ => 0) (fun _ _ => 0) (fun _ _ => 0) (fun _ _ _ => 0) (fun _ _ _ _ => 0) (fun _ _ _ => 0) (fun _ _ => 0) (fun _ _ _ _ => 0) (fun _ _ _ _ => 0) (fun _ _ => 0) (fun _ _ _ => 0) (fun _ _ _ _ _ _ => 0) (fun _ _ => 0) (fun _ _ _ => 0) (fun _ _ _ => 0) (fun _ => 1) (fun _ _ => 1) (fun _ _ _ _ _ => 1) (fun _ _ => 1) (fun _ _ => 1) (fun _ => 1) (fun _ _ _ _ _ => 1) (fun _ => 1) (fun _ => 1) (fun _ => 1) (fun _ _ _ => 1) (fun _ => 1) (fun _ _ => 2) (fun _ _ => 2) (fun _ _ _ _ _ => 2) 2 (fun _ _ _ _ _ => 2) (fun _ _ => 2) (fun _ _ _ => 3) (fun _ _ _ _ => 3) (fun _ _ => 3) (fun _ _ => 3) (fun _ _ _ _ => 3) (fun _ _ _ => 3) (fun _ _ _ => 3) (fun _ _ => 3) (fun _ _ _ => 3) (fun _ _ => 3) (fun _ _ => 3) co
def cGuardK (ops : Array Oper) (g : Option (Nat × Bool)) : Option (Option (Nat × Bool)) := Option.rec (motive := fun _ => Option (Option (Nat × Bool))) (some none) (fun p => cGuard ops (some p)) g
def dstK (N : Nat) (d : Option Nat) (g : Option (Nat × Bool)) (co : COp) : Option CE := Option.rec (motive := fun _ => Option CE) (some ⟨none, g, kindK co, co, []⟩) (fun d => Bool.rec (motive := fun _ => Option CE) none (some ⟨some d, g, kindK co, co, []⟩) (Nat.blt d N)) d
def cOperK (P : Program) (G : Nat) (N : Nat) (ops : Array Oper) (o : Oper) : Option CE := oB (cOpK P G o.op) fun co => oB (cGuardK ops o.guard) fun g => dstK N o.dst g co
def cOpersK (P : Program) (G : Nat) (N : Nat) (ops : Array Oper) (l : List Oper) : Option (List CE) := List.rec (motive := fun _ => Option (List CE)) (some []) (fun o _ ih => consK (cOperK P G N ops o) ih) l
def cDrawK (P : Program) (G : Nat) (N : Nat) (ops : Array Oper) : Option (List CE) := oB (cOpersK P G N ops ops.toList) fun ces => drawZ ops.size (ordN ops.size 0 (zipPl ops.toList ces 0 0))
def opsC (o : Option (List CE)) : CC := Option.rec (motive := fun _ => CC) .bad .ops o
def cc_bad (_ : Program) (_ _ : Nat) : CC := .bad
def cc_skip (_ : Program) (_ _ : Nat) : CC := .skip
def cc_ret (_ : Program) (_ _ : Nat) : CC := .ret
def cc_exit (id : Nat) (_ : Program) (_ _ : Nat) : CC := .exit id
def cc_label (_ : Nat) (_ : Program) (_ _ : Nat) : CC := .skip
def cc_goto (_ : Nat) (_ : Program) (_ _ : Nat) : CC := .bad
def cc_refuse (_ : String) (_ : Program) (_ _ : Nat) : CC := .bad
def cc_rf (_ : Operand) (_ : Array Nat) (_ _ : Code) (_ _ : Program → Nat → Nat → CC) (_ : Program) (_ _ : Nat) : CC := .bad
def cc_seq (_ _ : Code) (a b : Program → Nat → Nat → CC) (P : Program) (G N : Nat) : CC := .seq (a P G N) (b P G N)
def cc_cond (c : Operand) (_ _ : Code) (a b : Program → Nat → Nat → CC) (P : Program) (G N : Nat) : CC := Option.rec (motive := fun _ => CC) .bad (fun c => .cond c (a P G N) (b P G N)) (opdK G c)
def cc_block (id : Nat) (_ : Code) (b : Program → Nat → Nat → CC) (P : Program) (G N : Nat) : CC := .block id (b P G N)
def cc_loop (_ : Code) (b : Program → Nat → Nat → CC) (P : Program) (G N : Nat) : CC := .loop (b P G N)
def cc_scope (_ : Code) (b : Program → Nat → Nat → CC) (P : Program) (G N : Nat) : CC := b P G N
def cc_region (_ : Nat) (ops : Array Oper) (draw : Bool) (P : Program) (G N : Nat) : CC := Bool.rec (motive := fun _ => CC) (opsC (cOpersK P G N ops ops.toList)) (opsC (cDrawK P G N ops)) draw
def cCodeK (P : Program) (G : Nat) (N : Nat) (c : Code) : CC := Code.rec (motive := fun _ => Program → Nat → Nat → CC) cc_skip cc_region cc_seq cc_cond cc_block cc_loop cc_rf cc_exit cc_scope cc_label cc_goto cc_ret cc_refuse c P G N

inductive CRes where
  | t (i : Nat)
  | c (i : Nat) (n : Option Nat)

def cRes (P : Program) : List ResultVar → Option (List CRes)
  | [] => some []
  | .tmp i :: l => (match cRes P l with | some l => some (.t i :: l) | none => none)
  | .cell i t :: l => (match tyAgg P t, tySize P t, cRes P l with
    | some true, some n, some l => some (.c i (some n) :: l)
    | some false, _, some l => some (.c i none :: l)
    | _, _, _ => none)

def cResY (P : Program) : List ResultVar → Option (List CRes)
  | [] => some []
  | .tmp i :: l => (match cResY P l with | some l => some (.t i :: l) | none => none)
  | .cell i t :: l => (match tyAggY P t, tySizeY P t, cResY P l with
    | some true, some n, some l => some (.c i (some n) :: l)
    | some false, _, some l => some (.c i none :: l)
    | _, _, _ => none)

inductive CF where
  | bad
  | go (c : CC) (N : Nat) (res : List CRes)
  | ext (x : Ext)

def cFn (P : Program) (G : Nat) (f : Nat) : CF :=
  match fnF P f with
  | none => .bad
  | some fn => (match fn.body with
    | none => .ext (extOf P fn)
    | some c => (match cResY P fn.results.toList with | some r => .go (cCodeK P G fn.ntmps c) fn.ntmps r | none => .bad))

abbrev DS := List (Nat × AV)

inductive ER where
  | no
  /-- 0 on, 1 returns, n + 2 leaves block n -/
  | ok (x : Nat) (tm : T AV) (H : Hp) (nx : Nat) (ds : DS)

inductive VRes where
  | no
  | ok (v : AV) (H : Hp) (nx : Nat)

def resA (tm : T AV) (H : Hp) : List CRes → Option AV
  | [] => some .nil
  | .t i :: l => (match tm.get i with | some v => (match resA tm H l with | some m => some (.cons v m) | none => none) | none => none)
  | .c i n :: l => (match tm.get i with
    | some (.ptr id off) => (match (match n with | some n => (match rdAt H id off n with | some l => some (AV.agg l) | none => none) | none => (match H.get id with | some (.cells c _ _ _) => c.get off | _ => none)) with
      | some v => (match resA tm H l with | some m => some (.cons v m) | none => none)
      | none => none)
    | _ => none)

def resOf (l : AV) : AV := match l with | .cons v .nil => v | l => .tup l

def putD (tm : T AV) (d : Option Nat) (v : AV) : Option (T AV) :=
  Option.rec (motive := fun _ => Option (T AV)) (some tm) (fun i => tm.put i v) d

def holdsG (tm : T AV) (g : Option (Nat × Bool)) : Option Bool :=
  match g with
  | none => some true
  | some (d, want) => (match tm.get d with | some (.bool b) => some (b == want) | some .unk => none | some _ => some false | none => none)

def sameO : Option Int → Option Int → Bool
  | none, none => true
  | some a, some b => ieq a b
  | _, _ => false
def sameAV : Nat → AV → AV → Bool
  | 0, _, _ => false
  | d + 1, x, y => match x, y with
    | .bool a, .bool b => a == b
    | .int k a, .int j b => Nat.beq (kcode k) (kcode j) && ieq a b
    | .str a, .str b => natsEq a b
    | .nilPtr, .nilPtr | .nilSl, .nilSl | .slE, .slE | .nilMap, .nilMap | .nilFn, .nilFn | .nilIface, .nilIface | .nil, .nil | .unk, .unk => true
    | .rng a b, .rng c d => sameO a c && sameO b d
    | .ptr i o, .ptr j q => Nat.beq i j && Nat.beq o q
    | .sl i o n c, .sl j q m d => Nat.beq i j && Nat.beq o q && Nat.beq n m && (match c, d with | none, none => true | some a, some b => Nat.beq a b | _, _ => false)
    | .map i, .map j => Nat.beq i j
    | .iface t a, .iface u b => Nat.beq t u && sameAV d a b
    | .cons a x, .cons b y => sameAV d a b && sameAV d x y
    | .agg a, .agg b | .tup a, .tup b => sameAV d a b
    | _, _ => false

def chkA (P : Program) (tm : T AV) (H : Hp) : List (Option (Nat × Bool) × COp × Nat) → Bool
  | [] => true
  | (g, co, d) :: l => (match holdsG tm g with
    | some false => chkA P tm H l
    | some true => (match readA P co tm H, tm.get d with | some a, some b => bif sameAV 1000 a b then chkA P tm H l else false | _, _ => false)
    | none => false)

def initT (N : Nat) (args : AV) : Option (T AV) := bif Nat.ble args.len N && Nat.ble N 4096 then putCells (T.rep undefA N N) 0 args else none

section
variable (P : Program) (G : Nat)

def opA (ih : Nat → AV → Hp → Nat → VRes) (ce : CE) (tm : T AV) (H : Hp) (nx : Nat) (ds : DS) (k : T AV → Hp → Nat → DS → ER) : ER :=
  Option.rec (motive := fun _ => ER) .no (fun b => Bool.rec (motive := fun _ => ER)
      (Option.rec (motive := fun _ => ER) .no (fun tm => k tm H nx ds) (putD tm ce.dst undefA))
      (Nat.rec (motive := fun _ => ER)
        (Option.rec (motive := fun _ => ER) .no (fun v => Option.rec (motive := fun _ => ER) .no (fun tm => k tm H nx ds) (putD tm ce.dst v)) (pureA P ce.co tm))
        (fun i _ => Nat.rec (motive := fun _ => ER)
          (Option.rec (motive := fun _ => ER) .no (fun v => Option.rec (motive := fun _ => ER) .no (fun tm => k tm H nx ds) (putD tm ce.dst v)) (readA P ce.co tm H))
          (fun j _ => Nat.rec (motive := fun _ => ER)
            (match newA ce.co tm nx with
              | none => .no
              | some (v, o) => (match H.put nx o, putD tm ce.dst v with | some H, some tm => k tm H (Nat.succ nx) ds | _, _ => .no))
            (fun _ _ => match heavyA P G ce.co tm H nx with
              | .no => .no
              | .v a H nx => (match putD tm ce.dst a with | some tm => bif chkA P tm H ce.chk then k tm H nx ds else .no | none => .no)
              | .call f args => (match ih f args H nx with
                | .no => .no
                | .ok a H nx => (match putD tm ce.dst a with | some tm => bif chkA P tm H ce.chk then k tm H nx ds else .no | none => .no))
              | .defer f args => (match putD tm ce.dst undefA with | some tm => bif chkA P tm H ce.chk then k tm H nx ((f, args) :: ds) else .no | none => .no)) j) i) ce.kd) b) (holdsG tm ce.guard)

def opsA (ih : Nat → AV → Hp → Nat → VRes) (l : List CE) : T AV → Hp → Nat → DS → ER :=
  List.rec (motive := fun _ => T AV → Hp → Nat → DS → ER) (fun tm H nx ds => .ok 0 tm H nx ds) (fun ce _ k tm H nx ds => opA P G ih ce tm H nx ds k) l

def runD (ih : Nat → AV → Hp → Nat → VRes) : DS → Hp → Nat → VRes
  | [], H, nx => .ok undefA H nx
  | (f, a) :: l, H, nx => (match ih f a H nx with | .ok _ H nx => runD ih l H nx | .no => .no)

def callA (ih : CC → T AV → Hp → Nat → DS → ER) (rd : Nat → AV → Hp → Nat → VRes) (f : Nat) (args : AV) (H : Hp) (nx : Nat) : VRes :=
  match cFn P G f with
  | .bad => .no
  | .ext x => (match extA x args H nx with | .v a H nx => .ok a H nx | _ => .no)
  | .go c N res => (match initT N args with
    | none => .no
    | some tm => (match ih c tm H nx [] with
      | .no => .no
      | .ok x tm H nx ds => bif Nat.ble x 1 then (match runD rd ds H nx with
          | .no => .no
          | .ok _ H nx => (match resA tm H res with | some l => .ok (resOf l) H nx | none => .no)) else .no))

def stepC (cf : Nat → AV → Hp → Nat → VRes) (ih : CC → T AV → Hp → Nat → DS → ER) (c : CC) (tm : T AV) (H : Hp) (nx : Nat) (ds : DS) : ER :=
  match c with
  | .bad => .no
  | .skip => .ok 0 tm H nx ds
  | .ret => .ok 1 tm H nx ds
  | .exit id => .ok (Nat.add id 2) tm H nx ds
  | .seq a b => (match ih a tm H nx ds with | .ok x tm H nx ds => (match x with | 0 => ih b tm H nx ds | x + 1 => .ok (x + 1) tm H nx ds) | .no => .no)
  | .cond c a b => (match opd tm c with | some (.bool t) => (match t with | true => ih a tm H nx ds | false => ih b tm H nx ds) | _ => .no)
  | .block id b => (match ih b tm H nx ds with | .ok x tm H nx ds => bif Nat.beq x (Nat.add id 2) then .ok 0 tm H nx ds else .ok x tm H nx ds | .no => .no)
  | .loop b => (match ih b tm H nx ds with | .ok x tm H nx ds => (match x with | 0 => ih (.loop b) tm H nx ds | x + 1 => .ok (x + 1) tm H nx ds) | .no => .no)
  | .ops l => opsA P G cf l tm H nx ds

def stepA (ih : CC → T AV → Hp → Nat → DS → ER) (rd : Nat → AV → Hp → Nat → VRes) : CC → T AV → Hp → Nat → DS → ER := stepC P G (callA P G ih rd) ih

/-- a deferred call is passed by: that of the function `rf`, which does nothing on a plain way out -/
def rdA (rf : Nat) : Nat → AV → Hp → Nat → VRes := fun f _ H nx => bif Nat.beq f rf then .ok undefA H nx else .no

def ev (rf : Nat) (n : Nat) : CC → T AV → Hp → Nat → DS → ER :=
  Nat.rec (motive := fun _ => CC → T AV → Hp → Nat → DS → ER) (fun _ _ _ _ _ => .no) (fun _ ih => stepA P G ih (rdA rf)) n

def evCall (rf : Nat) (n : Nat) (f : Nat) (args : AV) (H : Hp) (nx : Nat) : VRes := callA P G (ev P G rf n) (rdA rf) f args H nx
end
end Go.Ev
