/- An evaluator of the model, and why what it tells is so (part 1). No condition. -/
import Derived.Orders
set_option linter.unusedVariables false
set_option linter.unusedSimpArgs false
noncomputable section
namespace Go.Ev

/-- eight of one kind -/
structure E8 (α : Type) : Type where
  (a0 a1 a2 a3 a4 a5 a6 a7 : α)
abbrev F8 (α : Type) : Type := E8 (E8 α)
/-- a place in a row: what stands there, and the row with another one there -/
structure Ac (β α : Type) : Type where
  get : β → α
  set : β → α → β
def Ac.then {γ β α : Type} (A : Ac γ β) (B : Ac β α) : Ac γ α := ⟨fun t => B.get (A.get t), fun t x => A.set t (B.set (A.get t) x)⟩
namespace E8
variable {α : Type}
def s0 (t : E8 α) (x : α) : E8 α := ⟨x, t.a1, t.a2, t.a3, t.a4, t.a5, t.a6, t.a7⟩
def s1 (t : E8 α) (x : α) : E8 α := ⟨t.a0, x, t.a2, t.a3, t.a4, t.a5, t.a6, t.a7⟩
def s2 (t : E8 α) (x : α) : E8 α := ⟨t.a0, t.a1, x, t.a3, t.a4, t.a5, t.a6, t.a7⟩
def s3 (t : E8 α) (x : α) : E8 α := ⟨t.a0, t.a1, t.a2, x, t.a4, t.a5, t.a6, t.a7⟩
def s4 (t : E8 α) (x : α) : E8 α := ⟨t.a0, t.a1, t.a2, t.a3, x, t.a5, t.a6, t.a7⟩
def s5 (t : E8 α) (x : α) : E8 α := ⟨t.a0, t.a1, t.a2, t.a3, t.a4, x, t.a6, t.a7⟩
def s6 (t : E8 α) (x : α) : E8 α := ⟨t.a0, t.a1, t.a2, t.a3, t.a4, t.a5, x, t.a7⟩
def s7 (t : E8 α) (x : α) : E8 α := ⟨t.a0, t.a1, t.a2, t.a3, t.a4, t.a5, t.a6, x⟩
def fg0 (t : F8 α) : α := t.a0.a0
def sm0 (α : Type) (b0 b1 b2 b3 b4 b5 b6 b7 x : α) : E8 α := ⟨x, b1, b2, b3, b4, b5, b6, b7⟩
def si0 (α : Type) (b : E8 α) (x : α) : E8 α := E8.rec (motive := fun _ => α → E8 α) (sm0 α) b x
def sm1 (α : Type) (b0 b1 b2 b3 b4 b5 b6 b7 x : α) : E8 α := ⟨b0, x, b2, b3, b4, b5, b6, b7⟩
def si1 (α : Type) (b : E8 α) (x : α) : E8 α := E8.rec (motive := fun _ => α → E8 α) (sm1 α) b x
def sm2 (α : Type) (b0 b1 b2 b3 b4 b5 b6 b7 x : α) : E8 α := ⟨b0, b1, x, b3, b4, b5, b6, b7⟩
def si2 (α : Type) (b : E8 α) (x : α) : E8 α := E8.rec (motive := fun _ => α → E8 α) (sm2 α) b x
def sm3 (α : Type) (b0 b1 b2 b3 b4 b5 b6 b7 x : α) : E8 α := ⟨b0, b1, b2, x, b4, b5, b6, b7⟩
def si3 (α : Type) (b : E8 α) (x : α) : E8 α := E8.rec (motive := fun _ => α → E8 α) (sm3 α) b x
def sm4 (α : Type) (b0 b1 b2 b3 b4 b5 b6 b7 x : α) : E8 α := ⟨b0, b1, b2, b3, x, b5, b6, b7⟩
def si4 (α : Type) (b : E8 α) (x : α) : E8 α := E8.rec (motive := fun _ => α → E8 α) (sm4 α) b x
def sm5 (α : Type) (b0 b1 b2 b3 b4 b5 b6 b7 x : α) : E8 α := ⟨b0, b1, b2, b3, b4, x, b6, b7⟩
def si5 (α : Type) (b : E8 α) (x : α) : E8 α := E8.rec (motive := fun _ => α → E8 α) (sm5 α) b x
def sm6 (α : Type) (b0 b1 b2 b3 b4 b5 b6 b7 x : α) : E8 α := ⟨b0, b1, b2, b3, b4, b5, x, b7⟩
def si6 (α : Type) (b : E8 α) (x : α) : E8 α := E8.rec (motive := fun _ => α → E8 α) (sm6 α) b x
def sm7 (α : Type) (b0 b1 b2 b3 b4 b5 b6 b7 x : α) : E8 α := ⟨b0, b1, b2, b3, b4, b5, b6, x⟩
def si7 (α : Type) (b : E8 α) (x : α) : E8 α := E8.rec (motive := fun _ => α → E8 α) (sm7 α) b x
def fm0 (α : Type) (a0 a1 a2 a3 a4 a5 a6 a7 : E8 α) (x : α) : F8 α := ⟨si0 α a0 x, a1, a2, a3, a4, a5, a6, a7⟩
def fs0 (t : F8 α) (x : α) : F8 α := E8.rec (motive := fun _ => α → F8 α) (fm0 α) t x
def fg1 (t : F8 α) : α := t.a0.a1
def fm1 (α : Type) (a0 a1 a2 a3 a4 a5 a6 a7 : E8 α) (x : α) : F8 α := ⟨si1 α a0 x, a1, a2, a3, a4, a5, a6, a7⟩
def fs1 (t : F8 α) (x : α) : F8 α := E8.rec (motive := fun _ => α → F8 α) (fm1 α) t x
def fg2 (t : F8 α) : α := t.a0.a2
def fm2 (α : Type) (a0 a1 a2 a3 a4 a5 a6 a7 : E8 α) (x : α) : F8 α := ⟨si2 α a0 x, a1, a2, a3, a4, a5, a6, a7⟩
def fs2 (t : F8 α) (x : α) : F8 α := E8.rec (motive := fun _ => α → F8 α) (fm2 α) t x
def fg3 (t : F8 α) : α := t.a0.a3
def fm3 (α : Type) (a0 a1 a2 a3 a4 a5 a6 a7 : E8 α) (x : α) : F8 α := ⟨si3 α a0 x, a1, a2, a3, a4, a5, a6, a7⟩
def fs3 (t : F8 α) (x : α) : F8 α := E8.rec (motive := fun _ => α → F8 α) (fm3 α) t x
def fg4 (t : F8 α) : α := t.a0.a4
def fm4 (α : Type) (a0 a1 a2 a3 a4 a5 a6 a7 : E8 α) (x : α) : F8 α := ⟨si4 α a0 x, a1, a2, a3, a4, a5, a6, a7⟩
def fs4 (t : F8 α) (x : α) : F8 α := E8.rec (motive := fun _ => α → F8 α) (fm4 α) t x
def fg5 (t : F8 α) : α := t.a0.a5
def fm5 (α : Type) (a0 a1 a2 a3 a4 a5 a6 a7 : E8 α) (x : α) : F8 α := ⟨si5 α a0 x, a1, a2, a3, a4, a5, a6, a7⟩
def fs5 (t : F8 α) (x : α) : F8 α := E8.rec (motive := fun _ => α → F8 α) (fm5 α) t x
def fg6 (t : F8 α) : α := t.a0.a6
def fm6 (α : Type) (a0 a1 a2 a3 a4 a5 a6 a7 : E8 α) (x : α) : F8 α := ⟨si6 α a0 x, a1, a2, a3, a4, a5, a6, a7⟩
def fs6 (t : F8 α) (x : α) : F8 α := E8.rec (motive := fun _ => α → F8 α) (fm6 α) t x
def fg7 (t : F8 α) : α := t.a0.a7
def fm7 (α : Type) (a0 a1 a2 a3 a4 a5 a6 a7 : E8 α) (x : α) : F8 α := ⟨si7 α a0 x, a1, a2, a3, a4, a5, a6, a7⟩
def fs7 (t : F8 α) (x : α) : F8 α := E8.rec (motive := fun _ => α → F8 α) (fm7 α) t x
def fg8 (t : F8 α) : α := t.a1.a0
def fm8 (α : Type) (a0 a1 a2 a3 a4 a5 a6 a7 : E8 α) (x : α) : F8 α := ⟨a0, si0 α a1 x, a2, a3, a4, a5, a6, a7⟩
def fs8 (t : F8 α) (x : α) : F8 α := E8.rec (motive := fun _ => α → F8 α) (fm8 α) t x
def fg9 (t : F8 α) : α := t.a1.a1
def fm9 (α : Type) (a0 a1 a2 a3 a4 a5 a6 a7 : E8 α) (x : α) : F8 α := ⟨a0, si1 α a1 x, a2, a3, a4, a5, a6, a7⟩
def fs9 (t : F8 α) (x : α) : F8 α := E8.rec (motive := fun _ => α → F8 α) (fm9 α) t x
def fg10 (t : F8 α) : α := t.a1.a2
def fm10 (α : Type) (a0 a1 a2 a3 a4 a5 a6 a7 : E8 α) (x : α) : F8 α := ⟨a0, si2 α a1 x, a2, a3, a4, a5, a6, a7⟩
def fs10 (t : F8 α) (x : α) : F8 α := E8.rec (motive := fun _ => α → F8 α) (fm10 α) t x
def fg11 (t : F8 α) : α := t.a1.a3
def fm11 (α : Type) (a0 a1 a2 a3 a4 a5 a6 a7 : E8 α) (x : α) : F8 α := ⟨a0, si3 α a1 x, a2, a3, a4, a5, a6, a7⟩
def fs11 (t : F8 α) (x : α) : F8 α := E8.rec (motive := fun _ => α → F8 α) (fm11 α) t x
def fg12 (t : F8 α) : α := t.a1.a4
def fm12 (α : Type) (a0 a1 a2 a3 a4 a5 a6 a7 : E8 α) (x : α) : F8 α := ⟨a0, si4 α a1 x, a2, a3, a4, a5, a6, a7⟩
def fs12 (t : F8 α) (x : α) : F8 α := E8.rec (motive := fun _ => α → F8 α) (fm12 α) t x
def fg13 (t : F8 α) : α := t.a1.a5
def fm13 (α : Type) (a0 a1 a2 a3 a4 a5 a6 a7 : E8 α) (x : α) : F8 α := ⟨a0, si5 α a1 x, a2, a3, a4, a5, a6, a7⟩
def fs13 (t : F8 α) (x : α) : F8 α := E8.rec (motive := fun _ => α → F8 α) (fm13 α) t x
def fg14 (t : F8 α) : α := t.a1.a6
def fm14 (α : Type) (a0 a1 a2 a3 a4 a5 a6 a7 : E8 α) (x : α) : F8 α := ⟨a0, si6 α a1 x, a2, a3, a4, a5, a6, a7⟩
def fs14 (t : F8 α) (x : α) : F8 α := E8.rec (motive := fun _ => α → F8 α) (fm14 α) t x
def fg15 (t : F8 α) : α := t.a1.a7
def fm15 (α : Type) (a0 a1 a2 a3 a4 a5 a6 a7 : E8 α) (x : α) : F8 α := ⟨a0, si7 α a1 x, a2, a3, a4, a5, a6, a7⟩
def fs15 (t : F8 α) (x : α) : F8 α := E8.rec (motive := fun _ => α → F8 α) (fm15 α) t x
def fg16 (t : F8 α) : α := t.a2.a0
def fm16 (α : Type) (a0 a1 a2 a3 a4 a5 a6 a7 : E8 α) (x : α) : F8 α := ⟨a0, a1, si0 α a2 x, a3, a4, a5, a6, a7⟩
def fs16 (t : F8 α) (x : α) : F8 α := E8.rec (motive := fun _ => α → F8 α) (fm16 α) t x
def fg17 (t : F8 α) : α := t.a2.a1
def fm17 (α : Type) (a0 a1 a2 a3 a4 a5 a6 a7 : E8 α) (x : α) : F8 α := ⟨a0, a1, si1 α a2 x, a3, a4, a5, a6, a7⟩
def fs17 (t : F8 α) (x : α) : F8 α := E8.rec (motive := fun _ => α → F8 α) (fm17 α) t x
def fg18 (t : F8 α) : α := t.a2.a2
def fm18 (α : Type) (a0 a1 a2 a3 a4 a5 a6 a7 : E8 α) (x : α) : F8 α := ⟨a0, a1, si2 α a2 x, a3, a4, a5, a6, a7⟩
def fs18 (t : F8 α) (x : α) : F8 α := E8.rec (motive := fun _ => α → F8 α) (fm18 α) t x
def fg19 (t : F8 α) : α := t.a2.a3
def fm19 (α : Type) (a0 a1 a2 a3 a4 a5 a6 a7 : E8 α) (x : α) : F8 α := ⟨a0, a1, si3 α a2 x, a3, a4, a5, a6, a7⟩
def fs19 (t : F8 α) (x : α) : F8 α := E8.rec (motive := fun _ => α → F8 α) (fm19 α) t x
def fg20 (t : F8 α) : α := t.a2.a4
def fm20 (α : Type) (a0 a1 a2 a3 a4 a5 a6 a7 : E8 α) (x : α) : F8 α := ⟨a0, a1, si4 α a2 x, a3, a4, a5, a6, a7⟩
def fs20 (t : F8 α) (x : α) : F8 α := E8.rec (motive := fun _ => α → F8 α) (fm20 α) t x
def fg21 (t : F8 α) : α := t.a2.a5
def fm21 (α : Type) (a0 a1 a2 a3 a4 a5 a6 a7 : E8 α) (x : α) : F8 α := ⟨a0, a1, si5 α a2 x, a3, a4, a5, a6, a7⟩
def fs21 (t : F8 α) (x : α) : F8 α := E8.rec (motive := fun _ => α → F8 α) (fm21 α) t x
def fg22 (t : F8 α) : α := t.a2.a6
def fm22 (α : Type) (a0 a1 a2 a3 a4 a5 a6 a7 : E8 α) (x : α) : F8 α := ⟨a0, a1, si6 α a2 x, a3, a4, a5, a6, a7⟩
def fs22 (t : F8 α) (x : α) : F8 α := E8.rec (motive := fun _ => α → F8 α) (fm22 α) t x
def fg23 (t : F8 α) : α := t.a2.a7
def fm23 (α : Type) (a0 a1 a2 a3 a4 a5 a6 a7 : E8 α) (x : α) : F8 α := ⟨a0, a1, si7 α a2 x, a3, a4, a5, a6, a7⟩
def fs23 (t : F8 α) (x : α) : F8 α := E8.rec (motive := fun _ => α → F8 α) (fm23 α) t x
def fg24 (t : F8 α) : α := t.a3.a0
def fm24 (α : Type) (a0 a1 a2 a3 a4 a5 a6 a7 : E8 α) (x : α) : F8 α := ⟨a0, a1, a2, si0 α a3 x, a4, a5, a6, a7⟩
def fs24 (t : F8 α) (x : α) : F8 α := E8.rec (motive := fun _ => α → F8 α) (fm24 α) t x
def fg25 (t : F8 α) : α := t.a3.a1
def fm25 (α : Type) (a0 a1 a2 a3 a4 a5 a6 a7 : E8 α) (x : α) : F8 α := ⟨a0, a1, a2, si1 α a3 x, a4, a5, a6, a7⟩
def fs25 (t : F8 α) (x : α) : F8 α := E8.rec (motive := fun _ => α → F8 α) (fm25 α) t x
def fg26 (t : F8 α) : α := t.a3.a2
def fm26 (α : Type) (a0 a1 a2 a3 a4 a5 a6 a7 : E8 α) (x : α) : F8 α := ⟨a0, a1, a2, si2 α a3 x, a4, a5, a6, a7⟩
def fs26 (t : F8 α) (x : α) : F8 α := E8.rec (motive := fun _ => α → F8 α) (fm26 α) t x
def fg27 (t : F8 α) : α := t.a3.a3
def fm27 (α : Type) (a0 a1 a2 a3 a4 a5 a6 a7 : E8 α) (x : α) : F8 α := ⟨a0, a1, a2, si3 α a3 x, a4, a5, a6, a7⟩
def fs27 (t : F8 α) (x : α) : F8 α := E8.rec (motive := fun _ => α → F8 α) (fm27 α) t x
def fg28 (t : F8 α) : α := t.a3.a4
def fm28 (α : Type) (a0 a1 a2 a3 a4 a5 a6 a7 : E8 α) (x : α) : F8 α := ⟨a0, a1, a2, si4 α a3 x, a4, a5, a6, a7⟩
def fs28 (t : F8 α) (x : α) : F8 α := E8.rec (motive := fun _ => α → F8 α) (fm28 α) t x
def fg29 (t : F8 α) : α := t.a3.a5
def fm29 (α : Type) (a0 a1 a2 a3 a4 a5 a6 a7 : E8 α) (x : α) : F8 α := ⟨a0, a1, a2, si5 α a3 x, a4, a5, a6, a7⟩
def fs29 (t : F8 α) (x : α) : F8 α := E8.rec (motive := fun _ => α → F8 α) (fm29 α) t x
def fg30 (t : F8 α) : α := t.a3.a6
def fm30 (α : Type) (a0 a1 a2 a3 a4 a5 a6 a7 : E8 α) (x : α) : F8 α := ⟨a0, a1, a2, si6 α a3 x, a4, a5, a6, a7⟩
def fs30 (t : F8 α) (x : α) : F8 α := E8.rec (motive := fun _ => α → F8 α) (fm30 α) t x
def fg31 (t : F8 α) : α := t.a3.a7
def fm31 (α : Type) (a0 a1 a2 a3 a4 a5 a6 a7 : E8 α) (x : α) : F8 α := ⟨a0, a1, a2, si7 α a3 x, a4, a5, a6, a7⟩
def fs31 (t : F8 α) (x : α) : F8 α := E8.rec (motive := fun _ => α → F8 α) (fm31 α) t x
def fg32 (t : F8 α) : α := t.a4.a0
def fm32 (α : Type) (a0 a1 a2 a3 a4 a5 a6 a7 : E8 α) (x : α) : F8 α := ⟨a0, a1, a2, a3, si0 α a4 x, a5, a6, a7⟩
def fs32 (t : F8 α) (x : α) : F8 α := E8.rec (motive := fun _ => α → F8 α) (fm32 α) t x
def fg33 (t : F8 α) : α := t.a4.a1
def fm33 (α : Type) (a0 a1 a2 a3 a4 a5 a6 a7 : E8 α) (x : α) : F8 α := ⟨a0, a1, a2, a3, si1 α a4 x, a5, a6, a7⟩
def fs33 (t : F8 α) (x : α) : F8 α := E8.rec (motive := fun _ => α → F8 α) (fm33 α) t x
def fg34 (t : F8 α) : α := t.a4.a2
def fm34 (α : Type) (a0 a1 a2 a3 a4 a5 a6 a7 : E8 α) (x : α) : F8 α := ⟨a0, a1, a2, a3, si2 α a4 x, a5, a6, a7⟩
def fs34 (t : F8 α) (x : α) : F8 α := E8.rec (motive := fun _ => α → F8 α) (fm34 α) t x
def fg35 (t : F8 α) : α := t.a4.a3
def fm35 (α : Type) (a0 a1 a2 a3 a4 a5 a6 a7 : E8 α) (x : α) : F8 α := ⟨a0, a1, a2, a3, si3 α a4 x, a5, a6, a7⟩
def fs35 (t : F8 α) (x : α) : F8 α := E8.rec (motive := fun _ => α → F8 α) (fm35 α) t x
def fg36 (t : F8 α) : α := t.a4.a4
def fm36 (α : Type) (a0 a1 a2 a3 a4 a5 a6 a7 : E8 α) (x : α) : F8 α := ⟨a0, a1, a2, a3, si4 α a4 x, a5, a6, a7⟩
def fs36 (t : F8 α) (x : α) : F8 α := E8.rec (motive := fun _ => α → F8 α) (fm36 α) t x
def fg37 (t : F8 α) : α := t.a4.a5
def fm37 (α : Type) (a0 a1 a2 a3 a4 a5 a6 a7 : E8 α) (x : α) : F8 α := ⟨a0, a1, a2, a3, si5 α a4 x, a5, a6, a7⟩
def fs37 (t : F8 α) (x : α) : F8 α := E8.rec (motive := fun _ => α → F8 α) (fm37 α) t x
def fg38 (t : F8 α) : α := t.a4.a6
def fm38 (α : Type) (a0 a1 a2 a3 a4 a5 a6 a7 : E8 α) (x : α) : F8 α := ⟨a0, a1, a2, a3, si6 α a4 x, a5, a6, a7⟩
def fs38 (t : F8 α) (x : α) : F8 α := E8.rec (motive := fun _ => α → F8 α) (fm38 α) t x
def fg39 (t : F8 α) : α := t.a4.a7
def fm39 (α : Type) (a0 a1 a2 a3 a4 a5 a6 a7 : E8 α) (x : α) : F8 α := ⟨a0, a1, a2, a3, si7 α a4 x, a5, a6, a7⟩
def fs39 (t : F8 α) (x : α) : F8 α := E8.rec (motive := fun _ => α → F8 α) (fm39 α) t x
def fg40 (t : F8 α) : α := t.a5.a0
def fm40 (α : Type) (a0 a1 a2 a3 a4 a5 a6 a7 : E8 α) (x : α) : F8 α := ⟨a0, a1, a2, a3, a4, si0 α a5 x, a6, a7⟩
def fs40 (t : F8 α) (x : α) : F8 α := E8.rec (motive := fun _ => α → F8 α) (fm40 α) t x
def fg41 (t : F8 α) : α := t.a5.a1
def fm41 (α : Type) (a0 a1 a2 a3 a4 a5 a6 a7 : E8 α) (x : α) : F8 α := ⟨a0, a1, a2, a3, a4, si1 α a5 x, a6, a7⟩
def fs41 (t : F8 α) (x : α) : F8 α := E8.rec (motive := fun _ => α → F8 α) (fm41 α) t x
def fg42 (t : F8 α) : α := t.a5.a2
def fm42 (α : Type) (a0 a1 a2 a3 a4 a5 a6 a7 : E8 α) (x : α) : F8 α := ⟨a0, a1, a2, a3, a4, si2 α a5 x, a6, a7⟩
def fs42 (t : F8 α) (x : α) : F8 α := E8.rec (motive := fun _ => α → F8 α) (fm42 α) t x
def fg43 (t : F8 α) : α := t.a5.a3
def fm43 (α : Type) (a0 a1 a2 a3 a4 a5 a6 a7 : E8 α) (x : α) : F8 α := ⟨a0, a1, a2, a3, a4, si3 α a5 x, a6, a7⟩
def fs43 (t : F8 α) (x : α) : F8 α := E8.rec (motive := fun _ => α → F8 α) (fm43 α) t x
def fg44 (t : F8 α) : α := t.a5.a4
def fm44 (α : Type) (a0 a1 a2 a3 a4 a5 a6 a7 : E8 α) (x : α) : F8 α := ⟨a0, a1, a2, a3, a4, si4 α a5 x, a6, a7⟩
def fs44 (t : F8 α) (x : α) : F8 α := E8.rec (motive := fun _ => α → F8 α) (fm44 α) t x
def fg45 (t : F8 α) : α := t.a5.a5
def fm45 (α : Type) (a0 a1 a2 a3 a4 a5 a6 a7 : E8 α) (x : α) : F8 α := ⟨a0, a1, a2, a3, a4, si5 α a5 x, a6, a7⟩
def fs45 (t : F8 α) (x : α) : F8 α := E8.rec (motive := fun _ => α → F8 α) (fm45 α) t x
def fg46 (t : F8 α) : α := t.a5.a6
def fm46 (α : Type) (a0 a1 a2 a3 a4 a5 a6 a7 : E8 α) (x : α) : F8 α := ⟨a0, a1, a2, a3, a4, si6 α a5 x, a6, a7⟩
def fs46 (t : F8 α) (x : α) : F8 α := E8.rec (motive := fun _ => α → F8 α) (fm46 α) t x
def fg47 (t : F8 α) : α := t.a5.a7
def fm47 (α : Type) (a0 a1 a2 a3 a4 a5 a6 a7 : E8 α) (x : α) : F8 α := ⟨a0, a1, a2, a3, a4, si7 α a5 x, a6, a7⟩
def fs47 (t : F8 α) (x : α) : F8 α := E8.rec (motive := fun _ => α → F8 α) (fm47 α) t x
def fg48 (t : F8 α) : α := t.a6.a0
def fm48 (α : Type) (a0 a1 a2 a3 a4 a5 a6 a7 : E8 α) (x : α) : F8 α := ⟨a0, a1, a2, a3, a4, a5, si0 α a6 x, a7⟩
def fs48 (t : F8 α) (x : α) : F8 α := E8.rec (motive := fun _ => α → F8 α) (fm48 α) t x
def fg49 (t : F8 α) : α := t.a6.a1
def fm49 (α : Type) (a0 a1 a2 a3 a4 a5 a6 a7 : E8 α) (x : α) : F8 α := ⟨a0, a1, a2, a3, a4, a5, si1 α a6 x, a7⟩
def fs49 (t : F8 α) (x : α) : F8 α := E8.rec (motive := fun _ => α → F8 α) (fm49 α) t x
def fg50 (t : F8 α) : α := t.a6.a2
def fm50 (α : Type) (a0 a1 a2 a3 a4 a5 a6 a7 : E8 α) (x : α) : F8 α := ⟨a0, a1, a2, a3, a4, a5, si2 α a6 x, a7⟩
def fs50 (t : F8 α) (x : α) : F8 α := E8.rec (motive := fun _ => α → F8 α) (fm50 α) t x
def fg51 (t : F8 α) : α := t.a6.a3
def fm51 (α : Type) (a0 a1 a2 a3 a4 a5 a6 a7 : E8 α) (x : α) : F8 α := ⟨a0, a1, a2, a3, a4, a5, si3 α a6 x, a7⟩
def fs51 (t : F8 α) (x : α) : F8 α := E8.rec (motive := fun _ => α → F8 α) (fm51 α) t x
def fg52 (t : F8 α) : α := t.a6.a4
def fm52 (α : Type) (a0 a1 a2 a3 a4 a5 a6 a7 : E8 α) (x : α) : F8 α := ⟨a0, a1, a2, a3, a4, a5, si4 α a6 x, a7⟩
def fs52 (t : F8 α) (x : α) : F8 α := E8.rec (motive := fun _ => α → F8 α) (fm52 α) t x
def fg53 (t : F8 α) : α := t.a6.a5
def fm53 (α : Type) (a0 a1 a2 a3 a4 a5 a6 a7 : E8 α) (x : α) : F8 α := ⟨a0, a1, a2, a3, a4, a5, si5 α a6 x, a7⟩
def fs53 (t : F8 α) (x : α) : F8 α := E8.rec (motive := fun _ => α → F8 α) (fm53 α) t x
def fg54 (t : F8 α) : α := t.a6.a6
def fm54 (α : Type) (a0 a1 a2 a3 a4 a5 a6 a7 : E8 α) (x : α) : F8 α := ⟨a0, a1, a2, a3, a4, a5, si6 α a6 x, a7⟩
def fs54 (t : F8 α) (x : α) : F8 α := E8.rec (motive := fun _ => α → F8 α) (fm54 α) t x
def fg55 (t : F8 α) : α := t.a6.a7
def fm55 (α : Type) (a0 a1 a2 a3 a4 a5 a6 a7 : E8 α) (x : α) : F8 α := ⟨a0, a1, a2, a3, a4, a5, si7 α a6 x, a7⟩
def fs55 (t : F8 α) (x : α) : F8 α := E8.rec (motive := fun _ => α → F8 α) (fm55 α) t x
def fg56 (t : F8 α) : α := t.a7.a0
def fm56 (α : Type) (a0 a1 a2 a3 a4 a5 a6 a7 : E8 α) (x : α) : F8 α := ⟨a0, a1, a2, a3, a4, a5, a6, si0 α a7 x⟩
def fs56 (t : F8 α) (x : α) : F8 α := E8.rec (motive := fun _ => α → F8 α) (fm56 α) t x
def fg57 (t : F8 α) : α := t.a7.a1
def fm57 (α : Type) (a0 a1 a2 a3 a4 a5 a6 a7 : E8 α) (x : α) : F8 α := ⟨a0, a1, a2, a3, a4, a5, a6, si1 α a7 x⟩
def fs57 (t : F8 α) (x : α) : F8 α := E8.rec (motive := fun _ => α → F8 α) (fm57 α) t x
def fg58 (t : F8 α) : α := t.a7.a2
def fm58 (α : Type) (a0 a1 a2 a3 a4 a5 a6 a7 : E8 α) (x : α) : F8 α := ⟨a0, a1, a2, a3, a4, a5, a6, si2 α a7 x⟩
def fs58 (t : F8 α) (x : α) : F8 α := E8.rec (motive := fun _ => α → F8 α) (fm58 α) t x
def fg59 (t : F8 α) : α := t.a7.a3
def fm59 (α : Type) (a0 a1 a2 a3 a4 a5 a6 a7 : E8 α) (x : α) : F8 α := ⟨a0, a1, a2, a3, a4, a5, a6, si3 α a7 x⟩
def fs59 (t : F8 α) (x : α) : F8 α := E8.rec (motive := fun _ => α → F8 α) (fm59 α) t x
def fg60 (t : F8 α) : α := t.a7.a4
def fm60 (α : Type) (a0 a1 a2 a3 a4 a5 a6 a7 : E8 α) (x : α) : F8 α := ⟨a0, a1, a2, a3, a4, a5, a6, si4 α a7 x⟩
def fs60 (t : F8 α) (x : α) : F8 α := E8.rec (motive := fun _ => α → F8 α) (fm60 α) t x
def fg61 (t : F8 α) : α := t.a7.a5
def fm61 (α : Type) (a0 a1 a2 a3 a4 a5 a6 a7 : E8 α) (x : α) : F8 α := ⟨a0, a1, a2, a3, a4, a5, a6, si5 α a7 x⟩
def fs61 (t : F8 α) (x : α) : F8 α := E8.rec (motive := fun _ => α → F8 α) (fm61 α) t x
def fg62 (t : F8 α) : α := t.a7.a6
def fm62 (α : Type) (a0 a1 a2 a3 a4 a5 a6 a7 : E8 α) (x : α) : F8 α := ⟨a0, a1, a2, a3, a4, a5, a6, si6 α a7 x⟩
def fs62 (t : F8 α) (x : α) : F8 α := E8.rec (motive := fun _ => α → F8 α) (fm62 α) t x
def fg63 (t : F8 α) : α := t.a7.a7
def fm63 (α : Type) (a0 a1 a2 a3 a4 a5 a6 a7 : E8 α) (x : α) : F8 α := ⟨a0, a1, a2, a3, a4, a5, a6, si7 α a7 x⟩
def fs63 (t : F8 α) (x : α) : F8 α := E8.rec (motive := fun _ => α → F8 α) (fm63 α) t x
/-- the place i of eight, of sixty-four: told to what follows -/
def k8 {R : Type} (i : Nat) (k : (E8 α → α) → (E8 α → α → E8 α) → R) : R := (Bool.rec (motive := fun _ => R) (Bool.rec (motive := fun _ => R) (Bool.rec (motive := fun _ => R) (k a7 s7) (k a6 s6) (Nat.ble (Nat.succ i) 7)) (Bool.rec (motive := fun _ => R) (k a5 s5) (k a4 s4) (Nat.ble (Nat.succ i) 5)) (Nat.ble (Nat.succ i) 6)) (Bool.rec (motive := fun _ => R) (Bool.rec (motive := fun _ => R) (k a3 s3) (k a2 s2) (Nat.ble (Nat.succ i) 3)) (Bool.rec (motive := fun _ => R) (k a1 s1) (k a0 s0) (Nat.ble (Nat.succ i) 1)) (Nat.ble (Nat.succ i) 2)) (Nat.ble (Nat.succ i) 4))
/-- the place i of sixty-four: found step by step, each a constant of its own (what isn't met is not laid out) -/
def c64_0 (α : Type) : Ac (F8 α) α := ⟨fg0, fs0⟩
def c64_1 (α : Type) : Ac (F8 α) α := ⟨fg1, fs1⟩
def c64_2 (α : Type) : Ac (F8 α) α := ⟨fg2, fs2⟩
def c64_3 (α : Type) : Ac (F8 α) α := ⟨fg3, fs3⟩
def c64_4 (α : Type) : Ac (F8 α) α := ⟨fg4, fs4⟩
def c64_5 (α : Type) : Ac (F8 α) α := ⟨fg5, fs5⟩
def c64_6 (α : Type) : Ac (F8 α) α := ⟨fg6, fs6⟩
def c64_7 (α : Type) : Ac (F8 α) α := ⟨fg7, fs7⟩
def c64_8 (α : Type) : Ac (F8 α) α := ⟨fg8, fs8⟩
def c64_9 (α : Type) : Ac (F8 α) α := ⟨fg9, fs9⟩
def c64_10 (α : Type) : Ac (F8 α) α := ⟨fg10, fs10⟩
def c64_11 (α : Type) : Ac (F8 α) α := ⟨fg11, fs11⟩
def c64_12 (α : Type) : Ac (F8 α) α := ⟨fg12, fs12⟩
def c64_13 (α : Type) : Ac (F8 α) α := ⟨fg13, fs13⟩
def c64_14 (α : Type) : Ac (F8 α) α := ⟨fg14, fs14⟩
def c64_15 (α : Type) : Ac (F8 α) α := ⟨fg15, fs15⟩
def c64_16 (α : Type) : Ac (F8 α) α := ⟨fg16, fs16⟩
def c64_17 (α : Type) : Ac (F8 α) α := ⟨fg17, fs17⟩
def c64_18 (α : Type) : Ac (F8 α) α := ⟨fg18, fs18⟩
def c64_19 (α : Type) : Ac (F8 α) α := ⟨fg19, fs19⟩
def c64_20 (α : Type) : Ac (F8 α) α := ⟨fg20, fs20⟩
def c64_21 (α : Type) : Ac (F8 α) α := ⟨fg21, fs21⟩
def c64_22 (α : Type) : Ac (F8 α) α := ⟨fg22, fs22⟩
def c64_23 (α : Type) : Ac (F8 α) α := ⟨fg23, fs23⟩
def c64_24 (α : Type) : Ac (F8 α) α := ⟨fg24, fs24⟩
def c64_25 (α : Type) : Ac (F8 α) α := ⟨fg25, fs25⟩
def c64_26 (α : Type) : Ac (F8 α) α := ⟨fg26, fs26⟩
def c64_27 (α : Type) : Ac (F8 α) α := ⟨fg27, fs27⟩
def c64_28 (α : Type) : Ac (F8 α) α := ⟨fg28, fs28⟩
def c64_29 (α : Type) : Ac (F8 α) α := ⟨fg29, fs29⟩
def c64_30 (α : Type) : Ac (F8 α) α := ⟨fg30, fs30⟩
def c64_31 (α : Type) : Ac (F8 α) α := ⟨fg31, fs31⟩
def c64_32 (α : Type) : Ac (F8 α) α := ⟨fg32, fs32⟩
def c64_33 (α : Type) : Ac (F8 α) α := ⟨fg33, fs33⟩
def c64_34 (α : Type) : Ac (F8 α) α := ⟨fg34, fs34⟩
def c64_35 (α : Type) : Ac (F8 α) α := ⟨fg35, fs35⟩
def c64_36 (α : Type) : Ac (F8 α) α := ⟨fg36, fs36⟩
def c64_37 (α : Type) : Ac (F8 α) α := ⟨fg37, fs37⟩
def c64_38 (α : Type) : Ac (F8 α) α := ⟨fg38, fs38⟩
def c64_39 (α : Type) : Ac (F8 α) α := ⟨fg39, fs39⟩
def c64_40 (α : Type) : Ac (F8 α) α := ⟨fg40, fs40⟩
def c64_41 (α : Type) : Ac (F8 α) α := ⟨fg41, fs41⟩
def c64_42 (α : Type) : Ac (F8 α) α := ⟨fg42, fs42⟩
def c64_43 (α : Type) : Ac (F8 α) α := ⟨fg43, fs43⟩
def c64_44 (α : Type) : Ac (F8 α) α := ⟨fg44, fs44⟩
def c64_45 (α : Type) : Ac (F8 α) α := ⟨fg45, fs45⟩
def c64_46 (α : Type) : Ac (F8 α) α := ⟨fg46, fs46⟩
def c64_47 (α : Type) : Ac (F8 α) α := ⟨fg47, fs47⟩
def c64_48 (α : Type) : Ac (F8 α) α := ⟨fg48, fs48⟩
def c64_49 (α : Type) : Ac (F8 α) α := ⟨fg49, fs49⟩
def c64_50 (α : Type) : Ac (F8 α) α := ⟨fg50, fs50⟩
def c64_51 (α : Type) : Ac (F8 α) α := ⟨fg51, fs51⟩
def c64_52 (α : Type) : Ac (F8 α) α := ⟨fg52, fs52⟩
def c64_53 (α : Type) : Ac (F8 α) α := ⟨fg53, fs53⟩
def c64_54 (α : Type) : Ac (F8 α) α := ⟨fg54, fs54⟩
def c64_55 (α : Type) : Ac (F8 α) α := ⟨fg55, fs55⟩
def c64_56 (α : Type) : Ac (F8 α) α := ⟨fg56, fs56⟩
def c64_57 (α : Type) : Ac (F8 α) α := ⟨fg57, fs57⟩
def c64_58 (α : Type) : Ac (F8 α) α := ⟨fg58, fs58⟩
def c64_59 (α : Type) : Ac (F8 α) α := ⟨fg59, fs59⟩
def c64_60 (α : Type) : Ac (F8 α) α := ⟨fg60, fs60⟩
def c64_61 (α : Type) : Ac (F8 α) α := ⟨fg61, fs61⟩
def c64_62 (α : Type) : Ac (F8 α) α := ⟨fg62, fs62⟩
def c64_63 (α : Type) : Ac (F8 α) α := ⟨fg63, fs63⟩
def t64_0_2 (α : Type) (i : Nat) : Ac (F8 α) α := Bool.rec (motive := fun _ => Ac (F8 α) α) (c64_1 α) (c64_0 α) (Nat.ble (Nat.succ i) 1)
def t64_2_4 (α : Type) (i : Nat) : Ac (F8 α) α := Bool.rec (motive := fun _ => Ac (F8 α) α) (c64_3 α) (c64_2 α) (Nat.ble (Nat.succ i) 3)
def t64_0_4 (α : Type) (i : Nat) : Ac (F8 α) α := Bool.rec (motive := fun _ => Ac (F8 α) α) (t64_2_4 α i) (t64_0_2 α i) (Nat.ble (Nat.succ i) 2)
def t64_4_6 (α : Type) (i : Nat) : Ac (F8 α) α := Bool.rec (motive := fun _ => Ac (F8 α) α) (c64_5 α) (c64_4 α) (Nat.ble (Nat.succ i) 5)
def t64_6_8 (α : Type) (i : Nat) : Ac (F8 α) α := Bool.rec (motive := fun _ => Ac (F8 α) α) (c64_7 α) (c64_6 α) (Nat.ble (Nat.succ i) 7)
def t64_4_8 (α : Type) (i : Nat) : Ac (F8 α) α := Bool.rec (motive := fun _ => Ac (F8 α) α) (t64_6_8 α i) (t64_4_6 α i) (Nat.ble (Nat.succ i) 6)
def t64_0_8 (α : Type) (i : Nat) : Ac (F8 α) α := Bool.rec (motive := fun _ => Ac (F8 α) α) (t64_4_8 α i) (t64_0_4 α i) (Nat.ble (Nat.succ i) 4)
def t64_8_10 (α : Type) (i : Nat) : Ac (F8 α) α := Bool.rec (motive := fun _ => Ac (F8 α) α) (c64_9 α) (c64_8 α) (Nat.ble (Nat.succ i) 9)
def t64_10_12 (α : Type) (i : Nat) : Ac (F8 α) α := Bool.rec (motive := fun _ => Ac (F8 α) α) (c64_11 α) (c64_10 α) (Nat.ble (Nat.succ i) 11)
def t64_8_12 (α : Type) (i : Nat) : Ac (F8 α) α := Bool.rec (motive := fun _ => Ac (F8 α) α) (t64_10_12 α i) (t64_8_10 α i) (Nat.ble (Nat.succ i) 10)
def t64_12_14 (α : Type) (i : Nat) : Ac (F8 α) α := Bool.rec (motive := fun _ => Ac (F8 α) α) (c64_13 α) (c64_12 α) (Nat.ble (Nat.succ i) 13)
def t64_14_16 (α : Type) (i : Nat) : Ac (F8 α) α := Bool.rec (motive := fun _ => Ac (F8 α) α) (c64_15 α) (c64_14 α) (Nat.ble (Nat.succ i) 15)
def t64_12_16 (α : Type) (i : Nat) : Ac (F8 α) α := Bool.rec (motive := fun _ => Ac (F8 α) α) (t64_14_16 α i) (t64_12_14 α i) (Nat.ble (Nat.succ i) 14)
def t64_8_16 (α : Type) (i : Nat) : Ac (F8 α) α := Bool.rec (motive := fun _ => Ac (F8 α) α) (t64_12_16 α i) (t64_8_12 α i) (Nat.ble (Nat.succ i) 12)
def t64_0_16 (α : Type) (i : Nat) : Ac (F8 α) α := Bool.rec (motive := fun _ => Ac (F8 α) α) (t64_8_16 α i) (t64_0_8 α i) (Nat.ble (Nat.succ i) 8)
def t64_16_18 (α : Type) (i : Nat) : Ac (F8 α) α := Bool.rec (motive := fun _ => Ac (F8 α) α) (c64_17 α) (c64_16 α) (Nat.ble (Nat.succ i) 17)
def t64_18_20 (α : Type) (i : Nat) : Ac (F8 α) α := Bool.rec (motive := fun _ => Ac (F8 α) α) (c64_19 α) (c64_18 α) (Nat.ble (Nat.succ i) 19)
def t64_16_20 (α : Type) (i : Nat) : Ac (F8 α) α := Bool.rec (motive := fun _ => Ac (F8 α) α) (t64_18_20 α i) (t64_16_18 α i) (Nat.ble (Nat.succ i) 18)
def t64_20_22 (α : Type) (i : Nat) : Ac (F8 α) α := Bool.rec (motive := fun _ => Ac (F8 α) α) (c64_21 α) (c64_20 α) (Nat.ble (Nat.succ i) 21)
def t64_22_24 (α : Type) (i : Nat) : Ac (F8 α) α := Bool.rec (motive := fun _ => Ac (F8 α) α) (c64_23 α) (c64_22 α) (Nat.ble (Nat.succ i) 23)
def t64_20_24 (α : Type) (i : Nat) : Ac (F8 α) α := Bool.rec (motive := fun _ => Ac (F8 α) α) (t64_22_24 α i) (t64_20_22 α i) (Nat.ble (Nat.succ i) 22)
def t64_16_24 (α : Type) (i : Nat) : Ac (F8 α) α := Bool.rec (motive := fun _ => Ac (F8 α) α) (t64_20_24 α i) (t64_16_20 α i) (Nat.ble (Nat.succ i) 20)
def t64_24_26 (α : Type) (i : Nat) : Ac (F8 α) α := Bool.rec (motive := fun _ => Ac (F8 α) α) (c64_25 α) (c64_24 α) (Nat.ble (Nat.succ i) 25)
def t64_26_28 (α : Type) (i : Nat) : Ac (F8 α) α := Bool.rec (motive := fun _ => Ac (F8 α) α) (c64_27 α) (c64_26 α) (Nat.ble (Nat.succ i) 27)
def t64_24_28 (α : Type) (i : Nat) : Ac (F8 α) α := Bool.rec (motive := fun _ => Ac (F8 α) α) (t64_26_28 α i) (t64_24_26 α i) (Nat.ble (Nat.succ i) 26)
def t64_28_30 (α : Type) (i : Nat) : Ac (F8 α) α := Bool.rec (motive := fun _ => Ac (F8 α) α) (c64_29 α) (c64_28 α) (Nat.ble (Nat.succ i) 29)
def t64_30_32 (α : Type) (i : Nat) : Ac (F8 α) α := Bool.rec (motive := fun _ => Ac (F8 α) α) (c64_31 α) (c64_30 α) (Nat.ble (Nat.succ i) 31)
def t64_28_32 (α : Type) (i : Nat) : Ac (F8 α) α := Bool.rec (motive := fun _ => Ac (F8 α) α) (t64_30_32 α i) (t64_28_30 α i) (Nat.ble (Nat.succ i) 30)
def t64_24_32 (α : Type) (i : Nat) : Ac (F8 α) α := Bool.rec (motive := fun _ => Ac (F8 α) α) (t64_28_32 α i) (t64_24_28 α i) (Nat.ble (Nat.succ i) 28)
def t64_16_32 (α : Type) (i : Nat) : Ac (F8 α) α := Bool.rec (motive := fun _ => Ac (F8 α) α) (t64_24_32 α i) (t64_16_24 α i) (Nat.ble (Nat.succ i) 24)
def t64_0_32 (α : Type) (i : Nat) : Ac (F8 α) α := Bool.rec (motive := fun _ => Ac (F8 α) α) (t64_16_32 α i) (t64_0_16 α i) (Nat.ble (Nat.succ i) 16)
def t64_32_34 (α : Type) (i : Nat) : Ac (F8 α) α := Bool.rec (motive := fun _ => Ac (F8 α) α) (c64_33 α) (c64_32 α) (Nat.ble (Nat.succ i) 33)
def t64_34_36 (α : Type) (i : Nat) : Ac (F8 α) α := Bool.rec (motive := fun _ => Ac (F8 α) α) (c64_35 α) (c64_34 α) (Nat.ble (Nat.succ i) 35)
def t64_32_36 (α : Type) (i : Nat) : Ac (F8 α) α := Bool.rec (motive := fun _ => Ac (F8 α) α) (t64_34_36 α i) (t64_32_34 α i) (Nat.ble (Nat.succ i) 34)
def t64_36_38 (α : Type) (i : Nat) : Ac (F8 α) α := Bool.rec (motive := fun _ => Ac (F8 α) α) (c64_37 α) (c64_36 α) (Nat.ble (Nat.succ i) 37)
def t64_38_40 (α : Type) (i : Nat) : Ac (F8 α) α := Bool.rec (motive := fun _ => Ac (F8 α) α) (c64_39 α) (c64_38 α) (Nat.ble (Nat.succ i) 39)
def t64_36_40 (α : Type) (i : Nat) : Ac (F8 α) α := Bool.rec (motive := fun _ => Ac (F8 α) α) (t64_38_40 α i) (t64_36_38 α i) (Nat.ble (Nat.succ i) 38)
def t64_32_40 (α : Type) (i : Nat) : Ac (F8 α) α := Bool.rec (motive := fun _ => Ac (F8 α) α) (t64_36_40 α i) (t64_32_36 α i) (Nat.ble (Nat.succ i) 36)
def t64_40_42 (α : Type) (i : Nat) : Ac (F8 α) α := Bool.rec (motive := fun _ => Ac (F8 α) α) (c64_41 α) (c64_40 α) (Nat.ble (Nat.succ i) 41)
def t64_42_44 (α : Type) (i : Nat) : Ac (F8 α) α := Bool.rec (motive := fun _ => Ac (F8 α) α) (c64_43 α) (c64_42 α) (Nat.ble (Nat.succ i) 43)
def t64_40_44 (α : Type) (i : Nat) : Ac (F8 α) α := Bool.rec (motive := fun _ => Ac (F8 α) α) (t64_42_44 α i) (t64_40_42 α i) (Nat.ble (Nat.succ i) 42)
def t64_44_46 (α : Type) (i : Nat) : Ac (F8 α) α := Bool.rec (motive := fun _ => Ac (F8 α) α) (c64_45 α) (c64_44 α) (Nat.ble (Nat.succ i) 45)
def t64_46_48 (α : Type) (i : Nat) : Ac (F8 α) α := Bool.rec (motive := fun _ => Ac (F8 α) α) (c64_47 α) (c64_46 α) (Nat.ble (Nat.succ i) 47)
def t64_44_48 (α : Type) (i : Nat) : Ac (F8 α) α := Bool.rec (motive := fun _ => Ac (F8 α) α) (t64_46_48 α i) (t64_44_46 α i) (Nat.ble (Nat.succ i) 46)
def t64_40_48 (α : Type) (i : Nat) : Ac (F8 α) α := Bool.rec (motive := fun _ => Ac (F8 α) α) (t64_44_48 α i) (t64_40_44 α i) (Nat.ble (Nat.succ i) 44)
def t64_32_48 (α : Type) (i : Nat) : Ac (F8 α) α := Bool.rec (motive := fun _ => Ac (F8 α) α) (t64_40_48 α i) (t64_32_40 α i) (Nat.ble (Nat.succ i) 40)
def t64_48_50 (α : Type) (i : Nat) : Ac (F8 α) α := Bool.rec (motive := fun _ => Ac (F8 α) α) (c64_49 α) (c64_48 α) (Nat.ble (Nat.succ i) 49)
def t64_50_52 (α : Type) (i : Nat) : Ac (F8 α) α := Bool.rec (motive := fun _ => Ac (F8 α) α) (c64_51 α) (c64_50 α) (Nat.ble (Nat.succ i) 51)
def t64_48_52 (α : Type) (i : Nat) : Ac (F8 α) α := Bool.rec (motive := fun _ => Ac (F8 α) α) (t64_50_52 α i) (t64_48_50 α i) (Nat.ble (Nat.succ i) 50)
def t64_52_54 (α : Type) (i : Nat) : Ac (F8 α) α := Bool.rec (motive := fun _ => Ac (F8 α) α) (c64_53 α) (c64_52 α) (Nat.ble (Nat.succ i) 53)
def t64_54_56 (α : Type) (i : Nat) : Ac (F8 α) α := Bool.rec (motive := fun _ => Ac (F8 α) α) (c64_55 α) (c64_54 α) (Nat.ble (Nat.succ i) 55)
def t64_52_56 (α : Type) (i : Nat) : Ac (F8 α) α := Bool.rec (motive := fun _ => Ac (F8 α) α) (t64_54_56 α i) (t64_52_54 α i) (Nat.ble (Nat.succ i) 54)
def t64_48_56 (α : Type) (i : Nat) : Ac (F8 α) α := Bool.rec (motive := fun _ => Ac (F8 α) α) (t64_52_56 α i) (t64_48_52 α i) (Nat.ble (Nat.succ i) 52)
def t64_56_58 (α : Type) (i : Nat) : Ac (F8 α) α := Bool.rec (motive := fun _ => Ac (F8 α) α) (c64_57 α) (c64_56 α) (Nat.ble (Nat.succ i) 57)
def t64_58_60 (α : Type) (i : Nat) : Ac (F8 α) α := Bool.rec (motive := fun _ => Ac (F8 α) α) (c64_59 α) (c64_58 α) (Nat.ble (Nat.succ i) 59)
def t64_56_60 (α : Type) (i : Nat) : Ac (F8 α) α := Bool.rec (motive := fun _ => Ac (F8 α) α) (t64_58_60 α i) (t64_56_58 α i) (Nat.ble (Nat.succ i) 58)
def t64_60_62 (α : Type) (i : Nat) : Ac (F8 α) α := Bool.rec (motive := fun _ => Ac (F8 α) α) (c64_61 α) (c64_60 α) (Nat.ble (Nat.succ i) 61)
def t64_62_64 (α : Type) (i : Nat) : Ac (F8 α) α := Bool.rec (motive := fun _ => Ac (F8 α) α) (c64_63 α) (c64_62 α) (Nat.ble (Nat.succ i) 63)
def t64_60_64 (α : Type) (i : Nat) : Ac (F8 α) α := Bool.rec (motive := fun _ => Ac (F8 α) α) (t64_62_64 α i) (t64_60_62 α i) (Nat.ble (Nat.succ i) 62)
def t64_56_64 (α : Type) (i : Nat) : Ac (F8 α) α := Bool.rec (motive := fun _ => Ac (F8 α) α) (t64_60_64 α i) (t64_56_60 α i) (Nat.ble (Nat.succ i) 60)
def t64_48_64 (α : Type) (i : Nat) : Ac (F8 α) α := Bool.rec (motive := fun _ => Ac (F8 α) α) (t64_56_64 α i) (t64_48_56 α i) (Nat.ble (Nat.succ i) 56)
def t64_32_64 (α : Type) (i : Nat) : Ac (F8 α) α := Bool.rec (motive := fun _ => Ac (F8 α) α) (t64_48_64 α i) (t64_32_48 α i) (Nat.ble (Nat.succ i) 48)
def t64_0_64 (α : Type) (i : Nat) : Ac (F8 α) α := Bool.rec (motive := fun _ => Ac (F8 α) α) (t64_32_64 α i) (t64_0_32 α i) (Nat.ble (Nat.succ i) 32)
def kA {R : Type} (k : (F8 α → α) → (F8 α → α → F8 α) → R) (A : Ac (F8 α) α) : R := Ac.rec (motive := fun _ => R) k A
def k64 {R : Type} (i : Nat) (k : (F8 α → α) → (F8 α → α → F8 α) → R) : R := Nat.rec (motive := fun _ => R) (kA k (t64_0_64 α 0)) (fun j _ => kA k (t64_0_64 α (Nat.succ j))) i
def rep8 (s : Nat) (f : Nat → α) (n : Nat) : E8 α := ⟨f n, f (Nat.sub n s), f (Nat.sub n (Nat.mul 2 s)), f (Nat.sub n (Nat.mul 3 s)), f (Nat.sub n (Nat.mul 4 s)), f (Nat.sub n (Nat.mul 5 s)), f (Nat.sub n (Nat.mul 6 s)), f (Nat.sub n (Nat.mul 7 s))⟩
end E8
/-- rows of up to 262144 places: the first 64, the first 4096, and all -/
structure T (α : Type) : Type where
  lo : F8 (Option α)
  mid : F8 (F8 (Option α))
  hi : F8 (F8 (F8 (Option α)))
namespace T
variable {α : Type}
def top : Nat := 262144
def setLo (s : F8 (Option α) → Option α → F8 (Option α)) (lo : F8 (Option α)) (mid : F8 (F8 (Option α))) (hi : F8 (F8 (F8 (Option α)))) (x : Option α) : T α := ⟨s lo x, mid, hi⟩
def setMid (g2 : F8 (F8 (Option α)) → F8 (Option α)) (s2 : F8 (F8 (Option α)) → F8 (Option α) → F8 (F8 (Option α))) (s3 : F8 (Option α) → Option α → F8 (Option α)) (lo : F8 (Option α)) (mid : F8 (F8 (Option α))) (hi : F8 (F8 (F8 (Option α)))) (x : Option α) : T α := ⟨lo, s2 mid (s3 (g2 mid) x), hi⟩
def setHi (g1 : F8 (F8 (F8 (Option α))) → F8 (F8 (Option α))) (s1 : F8 (F8 (F8 (Option α))) → F8 (F8 (Option α)) → F8 (F8 (F8 (Option α)))) (g2 : F8 (F8 (Option α)) → F8 (Option α)) (s2 : F8 (F8 (Option α)) → F8 (Option α) → F8 (F8 (Option α))) (s3 : F8 (Option α) → Option α → F8 (Option α)) (lo : F8 (Option α)) (mid : F8 (F8 (Option α))) (hi : F8 (F8 (F8 (Option α)))) (x : Option α) : T α := ⟨lo, mid, s1 hi (s2 (g1 hi) (s3 (g2 (g1 hi)) x))⟩
def accL (α : Type) (i : Nat) : Ac (T α) (Option α) :=
  E8.k64 i (fun g s => ⟨fun t => g t.lo, fun t x => T.rec (motive := fun _ => Option α → T α) (setLo s) t x⟩)
def accM (α : Type) (i : Nat) : Ac (T α) (Option α) :=
  E8.k64 (Nat.div i 64) (fun g2 s2 => E8.k64 (Nat.mod i 64) (fun g3 s3 =>
    ⟨fun t => g3 (g2 t.mid), fun t x => T.rec (motive := fun _ => Option α → T α) (setMid g2 s2 s3) t x⟩))
def accH (α : Type) (i : Nat) : Ac (T α) (Option α) :=
  E8.k64 (Nat.div i 4096) (fun g1 s1 => E8.k64 (Nat.mod (Nat.div i 64) 64) (fun g2 s2 => E8.k64 (Nat.mod i 64) (fun g3 s3 =>
    ⟨fun t => g3 (g2 (g1 t.hi)), fun t x => T.rec (motive := fun _ => Option α → T α) (setHi g1 s1 g2 s2 s3) t x⟩)))
def acc (α : Type) (i : Nat) : Ac (T α) (Option α) :=
  Bool.rec (motive := fun _ => Ac (T α) (Option α)) (Bool.rec (motive := fun _ => Ac (T α) (Option α)) (accH α i) (accM α i) (Nat.ble (Nat.succ i) 4096)) (accL α i) (Nat.ble (Nat.succ i) 64)
/-- a place that is reckoned first -/
def accN (α : Type) (i : Nat) : Ac (T α) (Option α) := Nat.rec (motive := fun _ => Ac (T α) (Option α)) (acc α 0) (fun j _ => acc α (Nat.succ j)) i
def get (t : T α) (i : Nat) : Option α := Bool.rec (motive := fun _ => Option α) none ((accN α i).get t) (Nat.ble (Nat.succ i) top)
def put (t : T α) (i : Nat) (x : α) : Option (T α) := Bool.rec (motive := fun _ => Option (T α)) none (some ((accN α i).set t (some x))) (Nat.ble (Nat.succ i) top)
def one (x : α) (n : Nat) : Option α := Nat.rec (motive := fun _ => Option α) none (fun _ _ => some x) n
/-- n times the same -/
def rep (x : α) (_ n : Nat) : T α := ⟨E8.rep8 8 (E8.rep8 1 (one x)) n, E8.rep8 512 (E8.rep8 64 (E8.rep8 8 (E8.rep8 1 (one x)))) n, E8.rep8 32768 (E8.rep8 4096 (E8.rep8 512 (E8.rep8 64 (E8.rep8 8 (E8.rep8 1 (one x)))))) n⟩
def d8 (x : α) : E8 α := ⟨x, x, x, x, x, x, x, x⟩
def e : T α := ⟨d8 (d8 none), d8 (d8 (d8 (d8 none))), d8 (d8 (d8 (d8 (d8 (d8 none)))))⟩
end T

inductive AV where
  | bool (b : Bool)
  | int (k : IntKind) (n : Int)
  | str (l : List Nat)
  | nilPtr
  | ptr (id off : Nat)
  | nilSl
  | sl (id off len : Nat) (cap : Option Nat)
  | slE
  | nilMap
  | map (id : Nat)
  | fn (f : Fn) (first cap : AV)
  | nilFn
  | iface (t : Nat) (v : AV)
  | nilIface
  | nil
  | cons (h t : AV)
  | agg (l : AV)
  | tup (l : AV)
  | unk
  | rng (lo hi : Option Int)
  | rs (k : IntKind) (m r : Nat)
  deriving Inhabited

namespace AV
def ofList : List AV → AV
  | [] => .nil
  | a :: l => .cons a (ofList l)
/-- the cells of a value, as a row -/
def cells (v : AV) : AV := match v with | .agg l => l | v => .cons v .nil
def len (v : AV) : Nat := AV.rec (motive := fun _ => Nat) (fun _ => 0) (fun _ _ => 0) (fun _ => 0) 0 (fun _ _ => 0) 0 (fun _ _ _ _ => 0) 0 0 (fun _ => 0) (fun _ _ _ _ _ => 0) 0 (fun _ _ _ => 0) 0
  0 (fun _ _ _ t => Nat.succ t) (fun _ _ => 0) (fun _ _ => 0) 0 (fun _ _ => 0) (fun _ _ _ => 0) v
def app : AV → AV → AV
  | .cons h t, m => .cons h (app t m)
  | _, m => m
def nth : AV → Nat → Option AV
  | .cons h _, 0 => some h
  | .cons _ t, i + 1 => nth t i
  | _, _ => none
/-- n of them from i on -/
def part : AV → Nat → Nat → Option AV
  | _, _, 0 => some .nil
  | .cons h t, 0, n + 1 => (match part t 0 n with | some l => some (.cons h l) | none => none)
  | .cons _ t, i + 1, n + 1 => part t i (n + 1)
  | _, _, _ + 1 => none
def rep (z : AV) : Nat → AV
  | 0 => .nil
  | n + 1 => app z (rep z n)
end AV

abbrev undefA : AV := .tup .nil

structure Ent where
  key : AV
  val : AV
  born : Nat

inductive AO where
  /-- cells, how many are sure, the step of an open row (0: it is shut), its type -/
  | cells (c : T AV) (n sz e : Nat)
  | map (es : List Ent) (clock : Nat)
  | iter (m : Option Nat) (since : Nat) (seen : List Nat) (stepped : Nat)
  | siter (s : List Nat) (pos : Nat)
  | dead

abbrev Hp := T AO

inductive CO where
  | t (i : Nat)
  | c (v : AV)

def conv : Nat → Value → Option AV
  | 0, _ => none
  | n + 1, v => match v with
    | .bool b => some (.bool b)
    | .int k m => some (.int k m)
    | .string s => some (.str (s.data.toList.map (·.toNat)))
    | .pointer none => some .nilPtr
    | .slice none 0 0 => some .nilSl
    | .map none => some .nilMap
    | .nilFunc => some .nilFn
    | .nilIface => some .nilIface
    | .iface t v => (match conv n v with | some x => some (.iface t x) | none => none)
    | .agg cs => (match convL n cs.toList with | some x => some (.agg x) | none => none)
    | .tuple cs => (match convL n cs.toList with | some x => some (.tup x) | none => none)
    | .func f a b => (match convL n a.toList, convL n b.toList with | some x, some y => some (.fn f x y) | _, _ => none)
    | _ => none
where convL : Nat → List Value → Option AV
  | _, [] => some .nil
  | 0, _ => none
  | n + 1, v :: l => (match conv n v, convL n l with | some x, some y => some (.cons x y) | _, _ => none)

def opdOf (G : Nat) : Operand → Option CO
  | .tmp i => some (.t i)
  | .const v => (match conv 600 v with | some x => some (.c x) | none => none)
  | .global g => bif Nat.blt g G then some (.c (.ptr g 0)) else none
  | .func f => some (.c (.fn (.func f) .nil .nil))

def opdsOf (G : Nat) : List Operand → Option (List CO)
  | [] => some []
  | x :: l => (match opdOf G x, opdsOf G l with | some a, some b => some (a :: b) | _, _ => none)

def opdO (G : Nat) : Option Operand → Option (Option CO)
  | none => some none
  | some x => (match opdOf G x with | some a => some (some a) | none => none)

inductive Cal where
  | val (x : CO)
  | inv (x : CO) (name : String)

inductive EqS where
  | int | str | bool | ptr | slice | map | func | iface
inductive EqK where
  | s (k : EqS)
  | flat (l : List (Nat × EqS))

inductive COp where
  | mv (x : CO)
  | pick (c a b : CO)
  | bin (op : BinOp) (x y : CO)
  | eq (neg : Bool) (k : EqK) (x y : CO)
  | not (x : CO)
  | neg (x : CO)
  | toInt (k : IntKind) (x : CO)
  | nilchk (x : CO)
  | iface (t : Nat) (x : CO)
  | func (f : Fn) (first cap : List CO)
  | faddr (off : Nat) (x : CO)
  | field (off : Nat) (x : CO)
  | fields (off n : Nat) (x : CO)
  | idxA (n s : Nat) (x i : CO)
  | idxS (s : Nat) (x i : CO)
  | idxStr (x i : CO)
  | idxV (n s : Nat) (x i : CO)
  | idxVs (n s : Nat) (x i : CO)
  | build (z : AV) (ps : List (Nat × Nat × CO))
  | slStr (x : CO) (lo hi : Option CO)
  | slArr (n s : Nat) (x : CO) (lo hi mx : Option CO)
  | extract (i : Nat) (x : CO)
  | asC (t : Nat) (z : Option AV) (x : CO)
  | asI (want : List (String × Nat)) (z : Option AV) (x : CO)
  -- what looks at memory
  | load (x : CO)
  | loads (n : Nat) (x : CO)
  | slice (s : Nat) (x : CO) (lo hi mx : Option CO)
  | len (k : EqS) (x : CO)
  | lenC (n : Nat) (x : CO)
  | cap (x : CO)
  | lookup (q : EqS) (z : AV) (ok : Bool) (m k : CO)
  | toStr (x : CO)
  | bytesStr (x : CO)
  | toUp (x : CO)
  | fromUp (u s : Nat) (x : CO)
  | sdata (x : CO)
  -- what makes memory
  | alloc (z : AV) (e : Nat)
  | box (e : Nat) (x : CO)
  | bslice (z : AV) (len s e : Nat) (ps : List (Nat × Nat × CO))
  | mkmap
  | mkslice (z : AV) (s e : Nat) (l c : CO)
  | toBytes (e : Nat) (x : CO)
  -- what acts
  | store (n : Nat) (a x : CO)
  | mapupd (q : EqS) (m k v : CO)
  | range (str : Bool) (x : CO)
  | next (str : Bool) (x : CO)
  | append (s e : Nat) (x y : CO)
  | copy (s : Nat) (x y : CO)
  | delete (q : EqS) (m k : CO)
  | minmax (mx : Bool) (xs : List CO)
  | ustr (e : Nat) (x n : CO)
  | call (c : Cal) (xs : List CO)
  | defer (x : CO) (xs : List CO)

section types
variable (P : Program) (G : Nat)
def tySize (t : Nat) : Option Nat := match P.info? t with | some i => some i.size | none => none
def tyAgg (t : Nat) : Option Bool := match P.underlying t with | some (.struct _) | some (.array _ _) => some true | some _ => some false | none => none
def tyZero (t : Nat) : Option AV := match P.info? t with | some i => (match i.zero with | some v => conv 3000 v | none => none) | none => none
def smallBytes (t : Nat) : Bool := match P.info? t with | some i => Nat.ble i.bytes 1000000 | none => false
def tyZeroC (t : Nat) : Option AV := match tyZero P t with | some z => some z.cells | none => none
def tyField (s f : Nat) : Option (Nat × Nat) := match P.underlying s with | some (.struct fs) => (match fs[f]? with | some x => some (x.type, x.offset) | none => none) | _ => none
def tySlice (t : Nat) : Option (Nat × Nat) := match P.underlying t with | some (.slice e) => (match tySize P e with | some s => some (e, s) | none => none) | _ => none
def tyArr (t : Nat) : Option (Nat × Nat × Nat) := match P.underlying t with | some (.array n e) => (match tySize P e with | some s => some (n, e, s) | none => none) | _ => none
def sized : List Field → Bool
  | [] => true
  | f :: l => (match tySize P f.type with | some _ => sized l | none => false)
def partsS (t : Nat) : List (Nat × Operand) → Option (List (Nat × Nat × CO))
  | [] => some []
  | (i, x) :: l => (match tyField P t i with
    | some (ft, off) => (match tySize P ft, opdOf G x, partsS t l with | some s, some a, some b => some ((off, s, a) :: b) | _, _, _ => none)
    | none => none)
def partsA (G : Nat) (s : Nat) : List (Nat × Operand) → Option (List (Nat × Nat × CO))
  | [] => some []
  | (i, x) :: l => (match opdOf G x, partsA G s l with | some a, some b => some ((i * s, s, a) :: b) | _, _ => none)

def o1 {α β : Type} (x : Option α) (f : α → Option β) : Option β := match x with | some a => f a | none => none

def eqSOf (t : Nat) : Option EqS :=
  match P.underlying t with
  | some .bool => some .bool
  | some (.int _) => some .int
  | some .string => some .str
  | some (.pointer e) => (match tySize P e with | some (_ + 1) => some .ptr | _ => none)
  | some (.slice _) => some .slice
  | some (.map _ _) => some .map
  | some (.func _ _ _) => some .func
  | some (.interface _) => some .iface
  | _ => none
def eqFields : List Field → Option (List (Nat × EqS))
  | [] => some []
  | f :: l => (match eqSOf P f.type, eqFields l with | some k, some m => bif f.name == "_" then none else some ((f.offset, k) :: m) | _, _ => none)
def eqKOf (t : Nat) (cst : Bool) : Option EqK :=
  match eqSOf P t with
  | some .iface => bif cst then some (.s .iface) else none
  | some k => some (.s k)
  | none => (match P.underlying t with
    | some (.struct fs) => bif P.stoodInHeld t || P.eqGuardType P.depth t then none else (match eqFields P fs.toList with | some l => some (.flat l) | none => none)
    | _ => none)
def keyKind (t : Nat) : Option EqS :=
  match P.underlying t with
  | some .bool => some .bool
  | some (.int _) => some .int
  | some .string => some .str
  | _ => none
def mapKind (t : Nat) : Option EqS := match P.underlying t with | some (.map k _) => keyKind P k | _ => none

def cConvert (s d : Nat) (x : CO) : Option COp :=
  match P.underlying s, P.underlying d with
  | some (.int _), some (.int k) => some (.toInt k x)
  | some (.string), some .string => some (.toStr x)
  | some (.int _), some .string => some (.toStr x)
  | some (.slice e), some .string => (match P.underlying e with | some (.int .u8) => some (.bytesStr x) | _ => none)
  | some .string, some (.slice e) => (match P.underlying e with | some (.int .u8) => some (.toBytes e x) | _ => none)
  | some (.pointer t), some .unsafePointer => (match tySize P t with | some (_ + 1) => some (.toUp x) | _ => none)
  | some .unsafePointer, some (.pointer u) => (match tySize P u with | some (n + 1) => some (.fromUp u (n + 1) x) | _ => none)
  | _, _ => none

def cBuiltin (b : Builtin) (ts : List Nat) (xs : List CO) : Option COp :=
  match b, ts, xs with
  | .len, [t], [x] => (match P.underlying t with
    | some .string => some (.len .str x)
    | some (.slice _) => some (.len .slice x)
    | some (.map _ _) => some (.len .map x)
    | some (.array n _) => some (.lenC n x)
    | some (.pointer a) => (match P.underlying a with | some (.array n _) => some (.lenC n x) | _ => none)
    | _ => none)
  | .cap, [t], [x] => (match P.underlying t with | some (.slice _) => some (.cap x) | _ => none)
  | .append, [t, u], [x, y] => (match tySlice P t, P.underlying u with
    | some (e, s), some (.int _) => none
    | some (e, s), some _ => (match tyZeroC P e with | some z => bif Nat.beq z.len s && smallBytes P e && Nat.blt 0 s then some (.append s e x y) else none | none => none)
    | _, _ => none)
  | .copy, [t, _], [x, y] => (match tySlice P t with | some (_, s) => some (.copy s x y) | none => none)
  | .min, _, xs => some (.minmax false xs)
  | .max, _, xs => some (.minmax true xs)
  | .delete, [t, _], [m, k] => o1 (mapKind P t) fun q => some (.delete q m k)
  | .unsafeSliceData, _, [x] => some (.sdata x)
  | .unsafeString, t :: _, [x, n] => (match P.underlying t with | some (.pointer e) => (match tySize P e with | some 1 => some (.ustr e x n) | _ => none) | _ => none)
  | _, _, _ => none

def cOp (op : Op) : Option COp :=
  match op with
  | .move x | .assign x => o1 (opdOf G x) fun a => some (.mv a)
  | .pick c a b => o1 (opdOf G c) fun c => o1 (opdOf G a) fun a => o1 (opdOf G b) fun b => some (.pick c a b)
  | .alloc t => o1 (tyZeroC P t) fun z => some (.alloc z t)
  | .box t x => o1 (opdOf G x) fun x => some (.box t x)
  | .build t ps => (match tyZeroC P t, P.underlying t with
    | some z, some (.struct fs) => bif sized P fs.toList then o1 (partsS P G t ps.toList) fun l => some (.build z l) else none
    | some z, some (.array _ e) => o1 (tySize P e) fun s => o1 (partsA G s ps.toList) fun l => some (.build z l)
    | _, _ => none)
  | .buildSlice t len ps => o1 (tySlice P t) fun es => o1 (tyZeroC P es.1) fun z => o1 (partsA G es.2 ps.toList) fun l => bif Nat.beq z.len es.2 && Nat.ble (Nat.mul len es.2) 100000 && Nat.blt 0 es.2 then some (.bslice (z.rep len) len es.2 es.1 l) else none
  | .load t a => o1 (opdOf G a) fun x => o1 (tyAgg P t) fun g => bif g then o1 (tySize P t) fun n => some (.loads n x) else some (.load x)
  | .store t a x => o1 (opdOf G a) fun a => o1 (opdOf G x) fun x => o1 (tySize P t) fun n => some (.store n a x)
  | .nilCheck x => o1 (opdOf G x) fun x => some (.nilchk x)
  | .binOp op t x y _ => o1 (opdOf G x) fun x' => o1 (opdOf G y) fun y' => (match op with
    | .eql => o1 (eqKOf P t (Region.isConst x || Region.isConst y)) fun k => some (.eq false k x' y')
    | .neq => o1 (eqKOf P t (Region.isConst x || Region.isConst y)) fun k => some (.eq true k x' y')
    | op => some (.bin op x' y'))
  | .unOp op _ x => o1 (opdOf G x) fun x => (match op with | .not => some (.not x) | .neg => some (.neg x) | _ => none)
  | .convert s d x => o1 (opdOf G x) fun x => cConvert P s d x
  | .makeInterface t x => o1 (opdOf G x) fun x => (match P.underlying t with | some (.interface _) => none | some _ => some (.iface t x) | none => none)
  | .makeFunc f a c => o1 (opdsOf G a.toList) fun a => o1 (opdsOf G c.toList) fun c => some (.func f a c)
  | .makeMap t r => (match r with | none => some .mkmap | some (.const (.int _ _)) => (match P.underlying t with | some (.map _ _) => some .mkmap | _ => none) | _ => none)
  | .makeSlice t l c => o1 (tySlice P t) fun es => o1 (tyZeroC P es.1) fun z => o1 (opdOf G l) fun l => o1 (opdOf G c) fun c => bif Nat.beq z.len es.2 && smallBytes P es.1 && Nat.blt 0 es.2 then some (.mkslice z es.2 es.1 l c) else none
  | .slice t x lo hi mx => o1 (opdOf G x) fun x => o1 (opdO G lo) fun lo => o1 (opdO G hi) fun hi => o1 (opdO G mx) fun mx =>
    bif mx.isSome && !hi.isSome then none else (match P.underlying t with
    | some .string => bif mx.isSome then none else some (.slStr x lo hi)
    | some (.slice e) => o1 (tySize P e) fun s => some (.slice s x lo hi mx)
    | some (.array n e) => o1 (tySize P e) fun s => some (.slArr n s x lo hi mx)
    | some (.pointer a) => o1 (tyArr P a) fun q => some (.slArr q.1 q.2.2 x lo hi mx)
    | _ => none)
  | .fieldAddr s x f => o1 (tyField P s f) fun fo => (match tySize P fo.1 with | some (_ + 1) => o1 (opdOf G x) fun x => some (.faddr fo.2 x) | _ => none)
  | .field t x f => o1 (tyField P t f) fun fo => o1 (opdOf G x) fun x => o1 (tyAgg P fo.1) fun g => bif g then o1 (tySize P fo.1) fun n => some (.fields fo.2 n x) else some (.field fo.2 x)
  | .indexAddr t x i => o1 (opdOf G x) fun x => o1 (opdOf G i) fun i => (match P.underlying t with
    | some (.array n e) => o1 (tySize P e) fun s => some (.idxA n s x i)
    | some (.slice e) => o1 (tySize P e) fun s => some (.idxS s x i)
    | _ => none)
  | .index t x i => o1 (opdOf G x) fun x => o1 (opdOf G i) fun i => (match P.underlying t with
    | some .string => some (.idxStr x i)
    | some (.array n e) => o1 (tySize P e) fun s => o1 (tyAgg P e) fun g => bif g then some (.idxVs n s x i) else some (.idxV n s x i)
    | _ => none)
  | .lookup t m k ok => (match P.underlying t with
    | some (.map kt e) => o1 (keyKind P kt) fun q => o1 (tyZero P e) fun z => o1 (opdOf G m) fun m => o1 (opdOf G k) fun k => some (.lookup q z ok m k)
    | _ => none)
  | .mapUpdate t m k v | .insert t m k v => o1 (mapKind P t) fun q => o1 (opdOf G m) fun m => o1 (opdOf G k) fun k => o1 (opdOf G v) fun v => some (.mapupd q m k v)
  | .range t x => o1 (opdOf G x) fun x => (match P.underlying t with | some .string => some (.range true x) | some (.map _ _) => some (.range false x) | _ => none)
  | .next it s => o1 (opdOf G it) fun x => some (.next s x)
  | .typeAssert x _ t ok => o1 (opdOf G x) fun x => (match P.underlying t with
    | some (.interface want) => bif ok then o1 (tyZero P t) fun z => some (.asI want.toList (some z) x) else some (.asI want.toList none x)
    | some _ => bif ok then o1 (tyZero P t) fun z => some (.asC t (some z) x) else some (.asC t none x)
    | none => none)
  | .extract x i => o1 (opdOf G x) fun x => some (.extract i x)
  | .call c => o1 (opdsOf G c.args.toList) fun xs => (match c.callee with
    | .builtin b => cBuiltin P b c.argTypes.toList xs
    | .value f => o1 (opdOf G f) fun f => some (.call (.val f) xs)
    | .invoke r name => o1 (opdOf G r) fun r => some (.call (.inv r name) xs))
  | .defer c => o1 (opdsOf G c.args.toList) fun xs => (match c.callee with
    | .value f => o1 (opdOf G f) fun f => some (.defer f xs)
    | _ => none)
  | _ => none
end types

/-! ### values -/
def opd (tm : T AV) (x : CO) : Option AV := CO.rec (motive := fun _ => Option AV) (fun i => tm.get i) (fun v => some v) x
def opds (tm : T AV) : List CO → Option AV
  | [] => some .nil
  | x :: l => (match opd tm x with | some a => (match opds tm l with | some b => some (.cons a b) | none => none) | none => none)

def kcode (k : IntKind) : Nat := IntKind.rec (motive := fun _ => Nat) 0 1 2 3 4 5 6 7 k
def kmax (k : IntKind) : Nat := IntKind.rec (motive := fun _ => Nat) 127 32767 2147483647 9223372036854775807 255 65535 4294967295 18446744073709551615 k
def kneg (k : IntKind) : Nat := IntKind.rec (motive := fun _ => Nat) 128 32768 2147483648 9223372036854775808 0 0 0 0 k
/-- wrap, quick where nothing is to be done -/
def wrapF (k : IntKind) (n : Int) : Int :=
  Int.rec (motive := fun _ => Int) (fun m => Bool.rec (motive := fun _ => Int) (k.wrap (.ofNat m)) (.ofNat m) (Nat.ble m (kmax k)))
    (fun m => Bool.rec (motive := fun _ => Int) (k.wrap (.negSucc m)) (.negSucc m) (Nat.blt m (kneg k))) n
def ieq (a b : Int) : Bool := Int.rec (motive := fun _ => Bool) (fun m => Int.rec (motive := fun _ => Bool) (fun n => Nat.beq m n) (fun _ => false) b)
  (fun m => Int.rec (motive := fun _ => Bool) (fun _ => false) (fun n => Nat.beq m n) b) a
def ile (a b : Int) : Bool := Int.rec (motive := fun _ => Bool) (fun m => Int.rec (motive := fun _ => Bool) (fun n => Nat.ble m n) (fun _ => false) b)
  (fun m => Int.rec (motive := fun _ => Bool) (fun _ => true) (fun n => Nat.ble n m) b) a
def iadd (a b : Int) : Int := Int.rec (motive := fun _ => Int) (fun m => Int.rec (motive := fun _ => Int) (fun n => .ofNat (Nat.add m n)) (fun n => Int.subNatNat m (Nat.succ n)) b)
  (fun m => Int.rec (motive := fun _ => Int) (fun n => Int.subNatNat n (Nat.succ m)) (fun n => .negSucc (Nat.succ (Nat.add m n))) b) a
def imul (a b : Int) : Int := Int.rec (motive := fun _ => Int) (fun m => Int.rec (motive := fun _ => Int) (fun n => .ofNat (Nat.mul m n)) (fun n => Int.negOfNat (Nat.mul m (Nat.succ n))) b)
  (fun m => Int.rec (motive := fun _ => Int) (fun n => Int.negOfNat (Nat.mul (Nat.succ m) n)) (fun n => .ofNat (Nat.mul (Nat.succ m) (Nat.succ n))) b) a
def ineg (a : Int) : Int := Int.rec (motive := fun _ => Int) (fun m => Int.negOfNat m) (fun m => .ofNat (Nat.succ m)) a

def kbits (k : IntKind) : Nat := match k with | .i8 | .u8 => 8 | .i16 | .u16 => 16 | .i32 | .u32 => 32 | .i64 | .u64 => 64
def nat2 (f : Nat → Nat → Nat) (k : IntKind) (a b : Int) : Option AV :=
  match a, b with | .ofNat x, .ofNat y => bif Nat.ble x (kmax k) && Nat.ble y (kmax k) then some (.int k (.ofNat (f x y))) else none | _, _ => none
def intOp (op : BinOp) (k : IntKind) (a b : Int) : Option AV :=
  match op with
  | .add => some (.int k (wrapF k (iadd a b)))
  | .sub => some (.int k (wrapF k (iadd a (ineg b))))
  | .mul => some (.int k (wrapF k (imul a b)))
  | .quo => (match a, b with | .ofNat x, .ofNat (y + 1) => some (.int k (wrapF k (.ofNat (Nat.div x (y + 1))))) | _, .ofNat 0 => none | _, _ => some (.int k (wrapF k (a.tdiv b))))
  | .rem => (match a, b with | .ofNat x, .ofNat (y + 1) => some (.int k (.ofNat (Nat.mod x (y + 1)))) | _, .ofNat 0 => none | _, _ => some (.int k (a.tmod b)))
  | .eql | .neq => none
  | .lss => some (.bool (!(ile b a)))
  | .leq => some (.bool (ile a b))
  | .gtr => some (.bool (!(ile a b)))
  | .geq => some (.bool (ile b a))
  | .and => nat2 Nat.land k a b
  | .or => nat2 Nat.lor k a b
  | .xor => nat2 Nat.xor k a b
  | .andNot => nat2 (fun x y => Nat.xor x (Nat.land x y)) k a b
  | .shl => (match a, b with | .ofNat x, .ofNat y => bif Nat.ble y (kbits k) then some (.int k (wrapF k (.ofNat (Nat.mul x (Nat.pow 2 y))))) else none | _, _ => none)
  | .shr => (match a, b with | .ofNat x, .ofNat y => bif Nat.ble y (kbits k) then some (.int k (.ofNat (Nat.div x (Nat.pow 2 y)))) else none | _, _ => none)

def strLess : List Nat → List Nat → Bool
  | _, [] => false
  | [], _ :: _ => true
  | a :: x, b :: y => bif Nat.blt a b then true else bif Nat.beq a b then strLess x y else false
def natsEq : List Nat → List Nat → Bool
  | [], [] => true
  | a :: x, b :: y => bif Nat.beq a b then natsEq x y else false
  | _, _ => false

def strOp (op : BinOp) (x y : List Nat) : Option AV :=
  match op with
  | .add => bif Nat.ble (Nat.add x.length y.length) 1000000 then some (.str (x ++ y)) else none
  | .lss => some (.bool (strLess x y))
  | .leq => some (.bool (!strLess y x))
  | .gtr => some (.bool (strLess y x))
  | .geq => some (.bool (!strLess x y))
  | _ => none

/-- is all of it above b? -/
def oge (lo : Option Int) (b : Int) : Bool := match lo with | some l => !(ile l b) | none => false
/-- is all of it below b? -/
def ole (hi : Option Int) (b : Int) : Bool := match hi with | some h => !(ile b h) | none => false
/-- is all of it from b on? -/
def ogE (lo : Option Int) (b : Int) : Bool := match lo with | some l => ile b l | none => false
def olE (hi : Option Int) (b : Int) : Bool := match hi with | some h => ile h b | none => false
def rngOp (op : BinOp) (lo hi : Option Int) (b : Int) : Option AV :=
  match op with
  | .lss => bif ole hi b then some (.bool true) else bif ogE lo b then some (.bool false) else none
  | .leq => bif olE hi b then some (.bool true) else bif oge lo b then some (.bool false) else none
  | .gtr => bif oge lo b then some (.bool true) else bif olE hi b then some (.bool false) else none
  | .geq => bif ogE lo b then some (.bool true) else bif ole hi b then some (.bool false) else none
  | _ => none

/-- equality where nothing is asked -/
def eqSA (k : EqS) (x y : AV) : Option Bool :=
  match k with
  | .int => (match x, y with
    | .int k a, .int j b => bif Nat.beq (kcode k) (kcode j) then some (ieq a b) else none
    | .rng lo hi, .int .i64 b => bif (oge lo b) || (ole hi b) then some false else none
    | _, _ => none)
  | .str => (match x, y with | .str a, .str b => some (natsEq a b) | _, _ => none)
  | .bool => (match x, y with | .bool a, .bool b => some (match a, b with | true, true => true | false, false => true | _, _ => false) | _, _ => none)
  | .ptr => (match x, y with
    | .nilPtr, .nilPtr => some true
    | .nilPtr, .ptr .. | .ptr .., .nilPtr => some false
    | .ptr i o, .ptr j q => bif Nat.beq i j then some (Nat.beq o q) else none
    | _, _ => none)
  | .slice => (match x, y with
    | .nilSl, .nilSl => some true
    | .nilSl, .sl .. | .sl .., .nilSl | .nilSl, .slE | .slE, .nilSl => some false
    | _, _ => none)
  | .map => (match x, y with | .nilMap, .nilMap => some true | .nilMap, .map _ | .map _, .nilMap => some false | _, _ => none)
  | .func => (match x, y with | .nilFn, .nilFn => some true | .nilFn, .fn .. | .fn .., .nilFn => some false | _, _ => none)
  | .iface => (match x, y with | .nilIface, .nilIface => some true | .nilIface, .iface .. | .iface .., .nilIface => some false | _, _ => none)
def eqFA (x y : AV) : List (Nat × EqS) → Option Bool
  | [] => some true
  | (o, k) :: l => (match x.nth o, y.nth o with
    | some a, some b => (match eqSA k a b with | some true => eqFA x y l | r => r)
    | _, _ => none)
def eqKA (k : EqK) (x y : AV) : Option Bool :=
  match k with
  | .s k => eqSA k x y
  | .flat l => (match x, y with | .agg a, .agg b => eqFA a b l | _, _ => none)

/-- a byte of which something is known, as an int -/
def toI64 (m r : Nat) : Option AV := bif Nat.blt m 512 then some (.rs .i64 m r) else bif Nat.blt (Nat.sub m 512) 256 then some (.rng (some (.ofNat r)) (some (.ofNat (Nat.add r (Nat.xor 255 (Nat.sub m 512)))))) else none
/-- a byte of which some bits are known: which, and what they are -/
def mkBits (mask val : Nat) : AV := bif Nat.beq mask 255 then .int .u8 (.ofNat val) else .rs .u8 (Nat.add 512 mask) val
def bitsOp (op : BinOp) (mask val c : Nat) : Option AV :=
  match op with
  | .and => some (mkBits (Nat.lor mask (Nat.xor 255 c)) (Nat.land val c))
  | .or => some (mkBits (Nat.lor mask c) (Nat.lor val c))
  | .andNot => some (mkBits (Nat.lor mask c) (Nat.xor val (Nat.land val c)))
  | .shr => bif Nat.ble c 8 then some (mkBits (Nat.div mask (Nat.pow 2 c)) (Nat.div val (Nat.pow 2 c))) else none
  | _ => none
def shrB (op : BinOp) : Bool := match op with | .shr => true | _ => false
def rsOp (op : BinOp) (k : IntKind) (m r : Nat) (j : IntKind) (c : Nat) : Option AV :=
  bif Nat.blt m 512 then (match op with | .rem => bif Nat.blt 0 c && (Nat.beq m c && Nat.beq (kcode k) (kcode j)) then some (.int k (.ofNat r)) else none | _ => none)
  else bif Nat.beq (kcode k) (kcode .u8) && (Nat.blt c 256 && (shrB op || Nat.beq (kcode .u8) (kcode j))) then bitsOp op (Nat.sub m 512) r c else none

def binA (op : BinOp) (x y : AV) : Option AV :=
  match x, y with
  | .int k a, .int j b => (match op with
     | .shl | .shr => intOp op k a b
     | _ => bif Nat.beq (kcode k) (kcode j) then intOp op k a b else none)
  | .str a, .str b => strOp op a b
  | .rng lo hi, .int .i64 b => rngOp op lo hi b
  | .rs k m r, .int j (.ofNat c) => rsOp op k m r j c
  | _, _ => none

def bytesA : List Nat → AV
  | [] => .nil
  | n :: l => .cons (.int .u8 (.ofNat n)) (bytesA l)
def natsA : AV → Option (List Nat)
  | .nil => some []
  | .cons (.int .u8 (.ofNat n)) t => bif Nat.blt n 256 then (match natsA t with | some l => some (n :: l) | none => none) else none
  | _ => none

def natOf (x : Option AV) : Option Nat := match x with | some (.int _ (.ofNat n)) => some n | _ => none
def lim (tm : T AV) (x : Option CO) (d : Nat) : Option Nat := match x with | some c => natOf (opd tm c) | none => some d

/-! ### cells -/
def getCells (c : T AV) : Nat → Nat → Option AV
  | _, 0 => some .nil
  | i, n + 1 => (match c.get i with
    | some v => (match getCells c (Nat.succ i) n with | some l => some (.cons v l) | none => none)
    | none => none)
def putCells (c : T AV) : Nat → AV → Option (T AV)
  | i, .cons h t => (match c.put i h with | some c' => putCells c' (Nat.succ i) t | none => none)
  | _, _ => some c
termination_by structural _ l => l
def rowOf (l : AV) : Option (T AV) := putCells .e 0 l

/-- a row laid over another one -/
def setL : AV → Nat → AV → Option AV
  | l, 0, .nil => some l
  | .cons _ t, 0, .cons v vs => (match setL t 0 vs with | some t' => some (.cons v t') | none => none)
  | .cons h t, i + 1, vs => (match setL t i vs with | some t' => some (.cons h t') | none => none)
  | _, _, _ => none
def fillL (tm : T AV) : AV → List (Nat × Nat × CO) → Option AV
  | z, [] => some z
  | z, (off, size, x) :: l => (match opd tm x with
    | some v => (match v.cells with
      | vc => bif Nat.beq vc.len size then (match setL z off vc with | some z => fillL tm z l | none => none) else none)
    | none => none)
termination_by structural _ l => l

def cellsAt (H : Hp) (id : Nat) : Option (T AV × Nat × Nat × Nat) := match H.get id with | some (.cells c n sz e) => some (c, n, sz, e) | _ => none
def rdAt (H : Hp) (id off n : Nat) : Option AV := match H.get id with | some (.cells c _ _ _) => getCells c off n | _ => none
/-- is it a value of one cell? -/
def oneA (v : AV) : Bool := match v with | .agg _ | .tup _ | .nil | .cons .. => false | _ => true
def allOne : AV → Bool
  | .cons h t => bif oneA h then allOne t else false
  | _ => true
/-- into a row that is there, below what is sure -/
def wrAt (G : Nat) (H : Hp) (id off : Nat) (l : AV) : Option Hp :=
  match H.get id with
  | some (.cells c n sz e) => bif Nat.ble G id && Nat.ble (Nat.add off l.len) n && allOne l then
      (match putCells c off l with | some c' => H.put id (.cells c' n sz e) | none => none) else none
  | _ => none

def srcA (H : Hp) (size : Nat) (x : AV) : Option (AV × Nat) :=
  match x with
  | .nilSl | .slE => some (.nil, 0)
  | .sl id off len _ => (match rdAt H id off (Nat.mul len size) with | some l => some (l, len) | none => none)
  | .str l => bif Nat.beq size 1 then some (bytesA l, l.length) else none
  | _ => none

inductive R where
  | no
  | v (a : AV) (H : Hp) (nx : Nat)
  | call (f : Nat) (args : AV)
  | defer (f : Nat) (args : AV)

def R.of (H : Hp) (nx : Nat) (x : Option AV) : R := Option.rec (motive := fun _ => R) .no (fun a => .v a H nx) x
def R.up (a : AV) (nx : Nat) (x : Option Hp) : R := match x with | some H => .v a H nx | none => .no
def R.new (a : AV) (H : Hp) (nx : Nat) (o : AO) : R := match H.put nx o with | some H' => .v a H' (Nat.succ nx) | none => .no

def appendA (G : Nat) (H : Hp) (nx size e : Nat) (s x : AV) : R :=
  match srcA H size x with
  | none => .no
  | some (new, m) => bif Nat.ble m 100000 then (
    match s with
    | .nilSl => bif Nat.beq m 0 then .v .nilSl H nx else (match rowOf new with | some c => R.new (.sl nx 0 m none) H nx (.cells c (Nat.mul m size) size e) | none => .no)
    | .slE => bif Nat.beq m 0 then .v .slE H nx else .no
    | .sl id off len cap => bif Nat.ble len 100000 then
      (match H.get id with
      | some (.cells c n sz el) =>
        (match cap with
        | some k => bif Nat.ble (Nat.add len m) k then R.up (.sl id off (Nat.add len m) cap) nx (wrAt G H id (Nat.add off (Nat.mul len size)) new)
            else (match getCells c off (Nat.mul len size) with
              | some old => (match rowOf (old.app new) with
                | some c => R.new (.sl nx 0 (Nat.add len m) none) H nx (.cells c (Nat.mul (Nat.add len m) size) size e)
                | none => .no)
              | none => .no)
        | none => bif Nat.beq sz size then (bif Nat.ble (Nat.add off (Nat.mul (Nat.add len m) size)) n then R.up (.sl id off (Nat.add len m) cap) nx (wrAt G H id (Nat.add off (Nat.mul len size)) new)
            else bif Nat.ble G id && allOne new && Nat.beq el e then (match H.put id .dead with
              | some H' => bif Nat.beq off 0 && Nat.beq (Nat.mul len size) n then (match putCells c n new with
                  | some c => R.new (.sl nx 0 (Nat.add len m) none) H' nx (.cells c (Nat.mul (Nat.add len m) size) size e)
                  | none => .no)
                else (match getCells c off (Nat.mul len size) with
                  | some old => (match rowOf (old.app new) with
                    | some c => R.new (.sl nx 0 (Nat.add len m) none) H' nx (.cells c (Nat.mul (Nat.add len m) size) size e)
                    | none => .no)
                  | none => .no)
              | none => .no)
            else .no) else .no)
      | _ => .no) else .no
    | _ => .no) else .no

def findE (q : EqS) (k : AV) : List Ent → Option (Option AV)
  | [] => some none
  | e :: l => (match eqSA q k e.key with | some true => some (some e.val) | some false => findE q k l | none => none)
def updE (q : EqS) (k v : AV) : List Ent → Option (List Ent)
  | [] => none
  | e :: l => (match eqSA q k e.key with | some true => some (⟨k, v, e.born⟩ :: l) | some false => (match updE q k v l with | some l' => some (e :: l') | none => none) | none => none)
def delE (q : EqS) (k : AV) : List Ent → Option (List Ent)
  | [] => some []
  | e :: l => (match eqSA q k e.key with | some true => some l | some false => (match delE q k l with | some l' => some (e :: l') | none => none) | none => none)

def mmA (mx : Bool) : AV → AV → Option AV
  | v, .nil => some v
  | .int k a, .cons (.int _ b) l => mmA mx (.int k (bif (bif mx then !(ile b a) else !(ile a b)) then b else a)) l
  | _, _ => none
termination_by structural _ l => l

def cmpL : List Nat → List Nat → Int
  | [], [] => 0
  | [], _ :: _ => -1
  | _ :: _, [] => 1
  | a :: x, b :: y => bif Nat.blt a b then -1 else bif Nat.blt b a then 1 else cmpL x y
def idxL (c : Nat) : List Nat → Nat → Int
  | [], _ => -1
  | a :: l, i => bif Nat.beq a c then .ofNat i else idxL c l (Nat.succ i)

inductive Ext where
  | no | index | compare | overlaps | same | makeNoZero (e : Nat)

def extOf (P : Program) (fn : Func) : Ext :=
  match fn.name with
  | "internal/bytealg.IndexByteString" | "internal/bytealg.IndexByte" => .index
  | "internal/bytealg.Compare" => .compare
  | "internal/abi.NoEscape" => .same
  | "internal/bytealg.MakeNoZero" => (match fn.resultTypes[0]? with | some t => (match P.underlying t with | some (.slice e) => .makeNoZero e | _ => .no) | none => .no)
  | _ => .no

def bytesOfA (H : Hp) (x : AV) : Option (List Nat) := match x with | .str l => some l | x => (match srcA H 1 x with | some (l, _) => natsA l | none => none)

def extA (x : Ext) (args : AV) (H : Hp) (nx : Nat) : R :=
  match x, args with
  | .index, .cons a (.cons (.int .u8 (.ofNat c)) .nil) => (match bytesOfA H a with | some l => bif Nat.blt c 256 then .v (.int .i64 (idxL c l 0)) H nx else .no | none => .no)
  | .compare, .cons a (.cons b .nil) => (match bytesOfA H a, bytesOfA H b with | some l, some c => .v (.int .i64 (cmpL l c)) H nx | _, _ => .no)
  | .same, .cons a .nil => .v a H nx
  | .makeNoZero e, .cons (.int .i64 (.ofNat n)) .nil => bif Nat.ble n 100000 then R.new (.sl nx 0 n none) H nx (.cells (T.rep .unk n n) n 1 e) else .no
  | _, _ => .no

def methodOf (P : Program) (t : Nat) (name : String) : Option Nat :=
  match P.info? t with
  | some i => (match i.methods.find? (·.name == name) with
    | some m => (match m.path.toList, m.func, P.underlying t with
      | [], some (f, true), some (.pointer _) => some f
      | [], some (_, false), some (.pointer _) => none
      | [], some (f, false), some _ => some f
      | _, _, _ => none)
    | none => none)
  | none => none
def missing (P : Program) (want : List (String × Nat)) (t : Nat) : Option Bool :=
  match P.info? t with
  | some i => some (want.any fun (name, sig) => !i.methods.any fun m => m.name == name && m.sig == sig)
  | none => none

def pairA (a b : AV) : AV := .tup (.cons a (.cons b .nil))

/-! ### operations: what is reckoned alone -/
def pureA (P : Program) (co : COp) (tm : T AV) : Option AV :=
  match co with
  | .mv x => opd tm x
  | .pick c a b => (match opd tm c with | some (.bool true) => opd tm a | some (.bool false) => opd tm b | _ => none)
  | .bin op x y => (match opd tm x with | some a => (match opd tm y with | some b => binA op a b | none => none) | none => none)
  | .eq ng k x y => (match opd tm x with | some a => (match opd tm y with | some b => (match eqKA k a b with | some r => some (.bool (bif ng then !r else r)) | none => none) | none => none) | none => none)
  | .not x => (match opd tm x with | some (.bool b) => some (.bool (!b)) | _ => none)
  | .neg x => (match opd tm x with | some (.int k n) => some (.int k (wrapF k (ineg n))) | _ => none)
  | .toInt k x => (match opd tm x with | some (.int _ n) => some (.int k (wrapF k n)) | some (.rs _ m r) => (match k with | .i64 => toI64 m r | _ => none) | _ => none)
  | .nilchk x => (match opd tm x with | some (.ptr i o) => some (.ptr i o) | some (.fn (.func f) a c) => some (.fn (.func f) a c) | some (.iface t v) => some (.iface t v) | _ => none)
  | .iface t x => (match opd tm x with | some v => some (.iface t v) | none => none)
  | .func f a c => (match opds tm a, opds tm c with | some a, some c => some (.fn f a c) | _, _ => none)
  | .faddr off x => (match opd tm x with | some (.ptr id o) => some (.ptr id (Nat.add o off)) | _ => none)
  | .field off x => (match opd tm x with | some (.agg l) => l.nth off | _ => none)
  | .fields off n x => (match opd tm x with | some (.agg l) => (match l.part off n with | some l => some (.agg l) | none => none) | _ => none)
  | .idxA n s x i => (match opd tm x, natOf (opd tm i) with | some (.ptr id o), some i => bif Nat.blt i n then some (.ptr id (Nat.add o (Nat.mul i s))) else none | _, _ => none)
  | .idxS s x i => (match opd tm x, natOf (opd tm i) with | some (.sl id o len _), some i => bif Nat.blt i len then some (.ptr id (Nat.add o (Nat.mul i s))) else none | _, _ => none)
  | .idxStr x i => (match opd tm x, natOf (opd tm i) with | some (.str l), some i => (match l[i]? with | some c => some (.int .u8 (.ofNat c)) | none => none) | _, _ => none)
  | .idxV n s x i => (match opd tm x, natOf (opd tm i) with | some (.agg l), some i => bif Nat.blt i n then l.nth (Nat.mul i s) else none | _, _ => none)
  | .idxVs n s x i => (match opd tm x, natOf (opd tm i) with | some (.agg l), some i => bif Nat.blt i n then (match l.part (Nat.mul i s) s with | some l => some (.agg l) | none => none) else none | _, _ => none)
  | .build z ps => (match fillL tm z ps with | some l => some (.agg l) | none => none)
  | .slStr x lo hi => (match opd tm x with
    | some (.str l) => (match lim tm lo 0, lim tm hi l.length with
      | some a, some b => bif Nat.ble a b && Nat.ble b l.length then some (.str ((l.take b).drop a)) else none
      | _, _ => none)
    | _ => none)
  | .slArr n s x lo hi mx => (match opd tm x with
    | some (.ptr id off) => (match lim tm lo 0, lim tm hi n, lim tm mx n with
      | some a, some b, some m => bif Nat.ble a b && Nat.ble b m && Nat.ble m n then some (.sl id (bif Nat.beq m a then off else Nat.add off (Nat.mul a s)) (Nat.sub b a) (some (Nat.sub m a))) else none
      | _, _, _ => none)
    | _ => none)
  | .extract i x => (match opd tm x with | some (.tup l) => l.nth i | _ => none)
  | .asC t z x => (match opd tm x with
    | some (.iface u v) => bif Nat.beq u t then (match z with | some _ => some (pairA v (.bool true)) | none => some v)
       else (match z with | some z => some (pairA z (.bool false)) | none => none)
    | some .nilIface => (match z with | some z => some (pairA z (.bool false)) | none => none)
    | _ => none)
  | .asI want z x => (match opd tm x with
    | some (.iface u v) => (match missing P want u with
      | some false => (match z with | some _ => some (pairA (.iface u v) (.bool true)) | none => some (.iface u v))
      | some true => (match z with | some z => some (pairA z (.bool false)) | none => none)
      | none => none)
    | some .nilIface => (match z with | some z => some (pairA z (.bool false)) | none => none)
    | _ => none)
  | _ => none

/-- what only looks at memory -/
def readA (P : Program) (co : COp) (tm : T AV) (H : Hp) : Option AV :=
  match co with
  | .load x => (match opd tm x with | some (.ptr id off) => (match H.get id with | some (.cells c _ _ _) => c.get off | _ => none) | _ => none)
  | .loads n x => (match opd tm x with | some (.ptr id off) => (match rdAt H id off n with | some l => some (.agg l) | none => none) | _ => none)
  | .slice s x lo hi mx => (match opd tm x with
    | some .nilSl => (match lim tm lo 0, lim tm hi 0, lim tm mx 0 with | some 0, some 0, some 0 => some .nilSl | _, _, _ => none)
    | some .slE => (match lim tm lo 0, lim tm hi 0, mx with | some 0, some 0, none => some .slE | _, _, _ => none)
    | some (.sl id off len (some k)) => (match lim tm lo 0, lim tm hi len, lim tm mx k with
      | some a, some b, some m => bif Nat.ble a b && Nat.ble b m && Nat.ble m k then some (.sl id (bif Nat.beq m a then off else Nat.add off (Nat.mul a s)) (Nat.sub b a) (some (Nat.sub m a))) else none
      | _, _, _ => none)
    | some (.sl id off len none) => (match H.get id, lim tm lo 0, lim tm hi len with
      | some (.cells _ n sz _), some a, some b => bif Nat.beq sz s && Nat.ble a b && Nat.blt 0 sz then (match mx with
          | none => bif Nat.ble (Nat.add off (Nat.mul b s)) n then
              bif Nat.beq a 0 then some (.sl id off b none)
              else bif Nat.beq (Nat.add off (Nat.mul a s)) n then some .slE else some (.sl id (Nat.add off (Nat.mul a s)) (Nat.sub b a) none)
            else none
          | some m => (match natOf (opd tm m) with
            | some m => bif Nat.ble b m && Nat.ble (Nat.add off (Nat.mul m s)) n then some (.sl id (bif Nat.beq m a then off else Nat.add off (Nat.mul a s)) (Nat.sub b a) (some (Nat.sub m a))) else none
            | none => none)) else none
      | _, _, _ => none)
    | _ => none)
  | .lenC n _ => some (.int .i64 (.ofNat n))
  | .len k x => (match k, opd tm x with
    | .str, some (.str l) => some (.int .i64 (.ofNat l.length))
    | .slice, some .nilSl | .slice, some .slE => some (.int .i64 (.ofNat 0))
    | .slice, some (.sl _ _ n _) => some (.int .i64 (.ofNat n))
    | .map, some .nilMap => some (.int .i64 (.ofNat 0))
    | .map, some (.map id) => (match H.get id with | some (.map es _) => some (.int .i64 (.ofNat es.length)) | _ => none)
    | _, _ => none)
  | .cap x => (match opd tm x with
    | some .nilSl => some (.int .i64 (.ofNat 0))
    | some (.sl _ _ _ (some n)) => some (.int .i64 (.ofNat n))
    | some (.sl id off _ none) => (match H.get id with | some (.cells _ n sz _) => bif Nat.blt off n && Nat.blt 0 sz then some (.rng (some 1) none) else none | _ => none)
    | _ => none)
  | .lookup q z ok m k => (match opd tm m, opd tm k with
    | some m, some k => (match (match m with
        | .nilMap => some none
        | .map id => (match H.get id with | some (.map es _) => findE q k es | _ => none)
        | _ => none) with
      | some (some v) => some (bif ok then pairA v (.bool true) else v)
      | some none => some (bif ok then pairA z (.bool false) else z)
      | none => none)
    | _, _ => none)
  | .toStr x => (match opd tm x with
    | some (.str l) => some (.str l)
    | some (.int _ (.ofNat n)) => bif Nat.blt n 128 then some (.str [n]) else none
    | _ => none)
  | .bytesStr x => (match opd tm x with
    | some .nilSl => some (.str [])
    | some (.sl id off len _) => (match rdAt H id off len with | some l => (match natsA l with | some l => some (.str l) | none => none) | none => none)
    | _ => none)
  | .toUp x => (match opd tm x with
    | some .nilPtr => some .nilPtr
    | some (.ptr id off) => (match H.get id with | some (.cells _ n 0 _) => bif Nat.blt off n then some (.ptr id off) else none | _ => none)
    | _ => none)
  | .fromUp u s x => (match opd tm x with
    | some .nilPtr => some .nilPtr
    | some (.ptr id 0) => (match H.get id with | some (.cells _ n 0 e) => bif Nat.beq e u && Nat.ble s n then some (.ptr id 0) else none | _ => none)
    | _ => none)
  | .sdata x => (match opd tm x with
    | some .nilSl => some .nilPtr
    | some (.sl id off _ none) => (match H.get id with | some (.cells _ n sz _) => bif Nat.blt off n && Nat.blt 0 sz then some (.ptr id off) else none | _ => none)
    | some (.sl id off _ (some (_ + 1))) => some (.ptr id off)
    | _ => none)
  | _ => none

/-- what makes one block -/
def newA (co : COp) (tm : T AV) (nx : Nat) : Option (AV × AO) :=
  match co with
  | .alloc z e => (match rowOf z with | some c => some (.ptr nx 0, .cells c z.len 0 e) | none => none)
  | .box e x => (match opd tm x with | some v => (match v.cells with | z => (match rowOf z with | some c => some (.ptr nx 0, .cells c z.len 0 e) | none => none)) | none => none)
  | .bslice z len _ e ps => (match fillL tm z ps with | some l => (match rowOf l with | some c => some (.sl nx 0 len (some len), .cells c l.len 0 e) | none => none) | none => none)
  | .mkmap => some (.map nx, .map [] 0)
  | .mkslice z s e l c => (match natOf (opd tm l), natOf (opd tm c) with
    | some l, some c => bif Nat.ble l c && Nat.ble c 100000 then (match z with
       | .cons z1 .nil => some (.sl nx 0 l (some c), .cells (T.rep z1 c c) c 0 e)
       | z => (match rowOf (z.rep c) with | some t => some (.sl nx 0 l (some c), .cells t (Nat.mul c s) 0 e) | none => none)) else none
    | _, _ => none)
  | .toBytes e x => (match opd tm x with | some (.str l) => (match rowOf (bytesA l) with | some c => some (.sl nx 0 l.length none, .cells c l.length 1 e) | none => none) | _ => none)
  | _ => none

/-- what acts -/
def heavyA (P : Program) (G : Nat) (co : COp) (tm : T AV) (H : Hp) (nx : Nat) : R :=
  match co with
  | .store n a x => (match opd tm a, opd tm x with
    | some (.ptr id off), some v => (match v.cells with | vc => bif Nat.beq vc.len n then R.up undefA nx (wrAt G H id off vc) else .no)
    | _, _ => .no)
  | .mapupd q m k v => (match opd tm m, opd tm k, opd tm v with
    | some (.map id), some k, some v => (match H.get id with
      | some (.map es c) => bif Nat.ble G id then (match findE q k es with
        | some (some _) => (match updE q k v es with | some es' => R.up undefA nx (H.put id (.map es' c)) | none => .no)
        | some none => R.up undefA nx (H.put id (.map (es ++ [⟨k, v, c⟩]) (Nat.succ c)))
        | none => .no) else .no
      | _ => .no)
    | _, _, _ => .no)
  | .range true x => (match opd tm x with | some (.str l) => R.new (.ptr nx 0) H nx (.siter l 0) | _ => .no)
  | .range false x => (match opd tm x with
    | some .nilMap => R.new (.ptr nx 0) H nx (.iter none 0 [] 0)
    | some (.map id) => (match H.get id with | some (.map _ c) => R.new (.ptr nx 0) H nx (.iter (some id) c [] c) | _ => .no)
    | _ => .no)
  | .next true x => (match opd tm x with
    | some (.ptr id 0) => (match H.get id with
      | some (.siter l pos) => (match l[pos]? with
        | none => .v (.tup (.cons (.bool false) .nil)) H nx
        | some c => bif Nat.blt c 128 && Nat.ble G id then R.up (.tup (.cons (.bool true) (.cons (.int .i64 (.ofNat pos)) (.cons (.int .i32 (.ofNat c)) .nil)))) nx (H.put id (.siter l (Nat.succ pos))) else .no)
      | _ => .no)
    | _ => .no)
  | .next false x => (match opd tm x with
    | some (.ptr id 0) => (match H.get id with
      | some (.iter none _ _ _) => .v (.tup (.cons (.bool false) .nil)) H nx
      | some (.iter (some m) since seen last) => (match H.get m with
        | some (.map es clock) => bif !seen.isEmpty && !es.isEmpty && es.all (fun e => Nat.ble last e.born) then .no else (match es.filter fun e => !seen.contains e.born with
           | [] => .v (.tup (.cons (.bool false) .nil)) H nx
           | [e] => bif Nat.blt e.born since && Nat.ble G id then R.up (.tup (.cons (.bool true) (.cons e.key (.cons e.val .nil)))) nx (H.put id (.iter (some m) since (seen ++ [e.born]) clock)) else .no
           | _ => .no)
        | _ => .no)
      | _ => .no)
    | _ => .no)
  | .append s e x y => (match opd tm x, opd tm y with | some a, some b => appendA G H nx s e a b | _, _ => .no)
  | .copy s d x => (match opd tm d, opd tm x with
    | some d, some x => (match srcA H s x with
      | some (l, m) => (match d with
        | .nilSl | .slE => .v (.int .i64 (.ofNat 0)) H nx
        | .sl id off len _ => (match Nat.min m len with
          | n => (match l.part 0 (Nat.mul n s) with | some l => R.up (.int .i64 (.ofNat n)) nx (wrAt G H id off l) | none => .no))
        | _ => .no)
      | none => .no)
    | _, _ => .no)
  | .delete q m k => (match opd tm m, opd tm k with
    | some .nilMap, some k => .v undefA H nx
    | some (.map id), some k => (match H.get id with
      | some (.map es c) => bif Nat.ble G id then (match delE q k es with | some es' => R.up undefA nx (H.put id (.map es' c)) | none => .no) else .no
      | _ => .no)
    | _, _ => .no)
  | .minmax mx xs => (match opds tm xs with | some (.cons x l) => R.of H nx (mmA mx x l) | _ => .no)
  | .ustr e x n => (match opd tm x, natOf (opd tm n) with
    | some .nilPtr, some 0 => .v (.str []) H nx
    | some (.ptr id off), some (n + 1) => (match H.get id with
      | some (.cells c _ _ el) => (match getCells c off (n + 1) with
        | some l => (match natsA l, H.put id .dead with | some l, some H' => bif Nat.ble G id && Nat.beq el e && Nat.ble n 100000 then .v (.str l) H' nx else .no | _, _ => .no)
        | none => .no)
      | _ => .no)
    | _, _ => .no)
  | .call (.val f) xs => (match opd tm f, opds tm xs with
    | some (.fn (.func f) first cap), some args => .call f (first.app (args.app cap))
    | _, _ => .no)
  | .call (.inv r name) xs => (match opd tm r, opds tm xs with
    | some (.iface t v), some args => (match methodOf P t name with | some f => .call f (.cons v args) | none => .no)
    | _, _ => .no)
  | .defer f xs => (match opd tm f, opds tm xs with
    | some (.fn (.func f) first cap), some args => .defer f (first.app (args.app cap))
    | _, _ => .no)
  | _ => .no

/-- which: 0 alone, 1 looks, 2 makes, 3 acts -/
def kind (co : COp) : Nat :=
  match co with
  | .load .. | .loads .. | .slice .. | .len .. | .lenC .. | .cap .. | .lookup .. | .toStr .. | .bytesStr .. | .toUp .. | .fromUp .. | .sdata .. => 1
  | .alloc .. | .box .. | .bslice .. | .mkmap | .mkslice .. | .toBytes .. => 2
  | .store .. | .mapupd .. | .range .. | .next .. | .append ..  | .copy .. | .delete .. | .ustr .. | .call .. | .defer .. | .minmax .. => 3
  | _ => 0

/-! ### code -/
structure CE where
  dst : Option Nat
  guard : Option (Nat × Bool)
  kd : Nat
  co : COp
  /-- what was read ahead, and is to be read alike behind this one -/
  chk : List (Option (Nat × Bool) × COp × Nat)

inductive CC where
  | bad
  | skip
  | ret
  | exit (id : Nat)
  | seq (a b : CC)
  | cond (c : CO) (a b : CC)
  | block (id : Nat) (b : CC)
  | loop (b : CC)
  | ops (l : List CE)

def cGuard (ops : Array Oper) (g : Option (Nat × Bool)) : Option (Option (Nat × Bool)) :=
  match g with
  | none => some none
  | some (j, want) => (match ops[j]? with | some o => (match o.dst with | some d => some (some (d, want)) | none => none) | none => none)

def cOper (P : Program) (G : Nat) (N : Nat) (ops : Array Oper) (o : Oper) : Option CE :=
  match cOp P G o.op, cGuard ops o.guard with
  | some co, some g => (match o.dst with
    | none => some ⟨none, g, kind co, co, []⟩
    | some d => bif Nat.blt d N then some ⟨some d, g, kind co, co, []⟩ else none)
  | _, _ => none

def cOpers (P : Program) (G : Nat) (N : Nat) (ops : Array Oper) : List Oper → Option (List CE)
  | [] => some []
  | o :: l => (match cOper P G N ops o, cOpers P G N ops l with | some a, some b => some (a :: b) | _, _ => none)

/-! the drawn order -/
def anyEdges (o : Oper) : List Nat := o.after.toList.filterMap fun e => bif Region.binds .any e then some e.on else none

/-! the names that an operation looks at -/
def CO.see : CO → List Nat | .t i => [i] | .c _ => []
def seeO : Option CO → List Nat | none => [] | some x => x.see
def seeP : List (Nat × Nat × CO) → List Nat | [] => [] | x :: l => x.2.2.see ++ seeP l
def seeL : List CO → List Nat | [] => [] | x :: l => x.see ++ seeL l
def seeC : Cal → List Nat | .val x => x.see | .inv x _ => x.see
def COp.sees : COp → List Nat
  | .mv x | .not x | .neg x | .toInt _ x | .nilchk x | .iface _ x | .faddr _ x | .field _ x | .fields _ _ x | .extract _ x | .asC _ _ x | .asI _ _ x => x.see
  | .load x | .loads _ x | .len _ x | .lenC _ x | .cap x | .toStr x | .bytesStr x | .toUp x | .fromUp _ _ x | .sdata x | .box _ x | .toBytes _ x | .range _ x | .next _ x => x.see
  | .pick c a b => c.see ++ (a.see ++ b.see)
  | .bin _ x y | .eq _ _ x y => x.see ++ y.see
  | .func _ a c => seeL a ++ seeL c
  | .idxA _ _ x i | .idxS _ x i | .idxStr x i | .idxV _ _ x i | .idxVs _ _ x i => x.see ++ i.see
  | .build _ ps => seeP ps
  | .slStr x lo hi => x.see ++ (seeO lo ++ seeO hi)
  | .slArr _ _ x lo hi mx => x.see ++ (seeO lo ++ (seeO hi ++ seeO mx))
  | .slice _ x lo hi mx => x.see ++ (seeO lo ++ (seeO hi ++ seeO mx))
  | .lookup _ _ _ m k => m.see ++ k.see
  | .alloc _ _ | .mkmap => []
  | .bslice _ _ _ _ ps => seeP ps
  | .mkslice _ _ _ l c => l.see ++ c.see
  | .store _ a x => a.see ++ x.see
  | .mapupd _ m k v => m.see ++ (k.see ++ v.see)
  | .append _ _ x y | .copy _ x y => x.see ++ y.see
  | .delete _ m k => m.see ++ k.see
  | .minmax _ xs => seeL xs
  | .ustr _ x n => x.see ++ n.see
  | .call c xs => seeC c ++ seeL xs
  | .defer c xs => c.see ++ seeL xs
def seeG : Option (Nat × Bool) → List Nat | none => [] | some g => [g.1]
def CE.sees (c : CE) : List Nat := seeG c.guard ++ c.co.sees
def hvy (c : CE) : Bool := Nat.beq c.kd 3

/-- sets of places, as bits -/
def bit (s i : Nat) : Bool := Nat.beq (Nat.mod (Nat.div s (Nat.pow 2 i)) 2) 1

/-- an operation that is placed: its place, itself, all that stand ahead of it -/
structure Pd where
  i : Nat
  ce : CE
  pre : Nat
  hv : Bool
/-- an operation that is to be placed: does it stand in the row of those that act? -/
structure Pl where
  i : Nat
  ed : List Nat
  ce : CE
  hv : Bool

def bz (c t e : Bool) : Bool := Bool.rec (motive := fun _ => Bool) e t c
def bn (c : Bool) : Bool := Bool.rec (motive := fun _ => Bool) true false c
def bitsOf (l : List Nat) : Nat := List.rec (motive := fun _ => Nat) 0 (fun d _ ih => Nat.lor (Nat.pow 2 d) ih) l
def dBit (d : Option Nat) : Nat := Option.rec (motive := fun _ => Nat) 0 (fun d => Nat.pow 2 d) d
/-- have they none in common? -/
def apartB (a b : Nat) : Bool := Nat.beq (Nat.land a b) 0
def CE.sb (c : CE) : Nat := bitsOf c.sees
def CE.db (c : CE) : Nat := dBit c.dst

/-- all that stand ahead: what is placed last is looked at first -/
def preGo (pl : List Pd) : Nat → Nat := List.rec (motive := fun _ => Nat → Nat) (fun s => s) (fun p _ ih s => ih (Bool.rec (motive := fun _ => Nat) s (Nat.lor s p.pre) (bit s p.i))) pl
def preOf (pl : List Pd) (ed : List Nat) : Nat := preGo pl (bitsOf ed)
def lastHv (pl : List Pd) : Option Nat := List.rec (motive := fun _ => Option Nat) none (fun p _ ih => Bool.rec (motive := fun _ => Option Nat) ih (some p.i) p.hv) pl
def dnOf (pl : List Pd) : Nat := List.rec (motive := fun _ => Nat) 0 (fun p _ ih => Nat.lor (Nat.pow 2 p.i) ih) pl

/-- may x stand behind p? -/
def okOne (p : Pd) (x : Pl) (pre sx dx : Nat) : Bool :=
  bz (bz (apartB sx p.ce.db) true (bit pre p.i)) (bz (apartB p.ce.db dx) (bz p.hv true (bz (apartB p.ce.sb dx) true (bz x.hv (bit pre p.i) false))) false) false
/-- the same, reckoned: nothing may be left -/
def nbit (s i : Nat) : Nat := Nat.sub 1 (Nat.mod (Nat.div s (Nat.pow 2 i)) 2)
def okOneN (p : Pd) (x : Pl) (pre sx dx : Nat) : Bool :=
  Nat.beq (Nat.add (Nat.mul (Nat.land sx p.ce.db) (nbit pre p.i)) (Nat.add (Nat.land p.ce.db dx) (Bool.rec (motive := fun _ => Nat) (Nat.mul (Nat.land p.ce.sb dx) (Bool.rec (motive := fun _ => Nat) 1 (nbit pre p.i) x.hv)) 0 p.hv))) 0
def okAll (pl : List Pd) (x : Pl) (pre sx dx : Nat) : Bool := List.rec (motive := fun _ => Bool) true (fun p _ ih => bz (okOneN p x pre sx dx) ih false) pl
def hasLast (l : Option Nat) (pre : Nat) : Bool := Option.rec (motive := fun _ => Bool) true (fun k => bit pre k) l
def isSomeN (d : Option Nat) : Bool := Option.rec (motive := fun _ => Bool) false (fun _ => true) d

/-- may it be placed here? -/
def okPl (pl : List Pd) (x : Pl) (pre : Nat) : Bool :=
  bz (bit (dnOf pl) x.i) false (bz (Nat.beq (Nat.land (bitsOf x.ed) (dnOf pl)) (bitsOf x.ed)) (bz (hasLast (lastHv pl) pre) (bz (okAll pl x pre x.ce.sb x.ce.db)
    (bz (bz x.hv true (apartB x.ce.sb x.ce.db)) (bz (bz (Nat.beq x.ce.kd 1) (isSomeN x.ce.dst) true) (bz x.hv (bn (Nat.beq x.ce.kd 2)) (bn (Nat.beq x.ce.kd 3))) false) false) false) false) false)

/-- what is read again behind one that acts -/
def chkOf (pre : Nat) (pl : List Pd) : List (Option (Nat × Bool) × COp × Nat) :=
  List.rec (motive := fun _ => List (Option (Nat × Bool) × COp × Nat)) [] (fun q _ ih => Bool.rec (motive := fun _ => List (Option (Nat × Bool) × COp × Nat)) ih
    (Option.rec (motive := fun _ => List (Option (Nat × Bool) × COp × Nat)) ih (fun d => (q.ce.guard, q.ce.co, d) :: ih) q.ce.dst) (bz (Nat.beq q.ce.kd 1) (bn (bit pre q.i)) false)) pl
def withChk (pl : List Pd) (pre : Nat) (c : CE) : CE := Bool.rec (motive := fun _ => CE) c { c with chk := chkOf pre pl } (hvy c)

/-- those that act stand in one row; the others as early as may be -/
def draws : List Pd → List Pl → Option (List CE)
  | _, [] => some []
  | pl, x :: rest => (match preOf pl x.ed with
    | pre => bif okPl pl x pre then (match draws (⟨x.i, x.ce, pre, x.hv⟩ :: pl) rest with | some l => some (withChk pl pre x.ce :: l) | none => none) else none)
termination_by structural _ l => l

/-- an operation of a drawn region, as it is written: made a thing to be placed (it acts, or writes what one ahead of it looks at, or itself) -/
def zipC (ih : List CE → Nat → Nat → List Pl) (o : Oper) (c : CE) (m : List CE) (i seen : Nat) : List Pl := ⟨i, anyEdges o, c, bz (hvy c) true (bn (apartB seen c.db))⟩ :: ih m (Nat.succ i) seen
def zipO (o : Oper) (ih : List CE → Nat → Nat → List Pl) (m : List CE) (i seen : Nat) : List Pl := List.rec (motive := fun _ => List Pl) [] (fun c m' _ => zipC ih o c m' i (Nat.lor seen c.sb)) m
def zipPl (l : List Oper) : List CE → Nat → Nat → List Pl := List.rec (motive := fun _ => List CE → Nat → Nat → List Pl) (fun _ _ _ => []) (fun o _ ih => zipO o ih) l
/-- the order: found, not proved: all ready ones that don't act, then one that acts, and so on -/
def rdy (x : Pl) (done : Nat) : Bool := Nat.beq (Nat.land (bitsOf x.ed) done) (bitsOf x.ed)
def passC (x : Pl) (ih : Nat → (Nat → List Pl → List Pl) → List Pl) (done : Nat) (k : Nat → List Pl → List Pl) : List Pl :=
  Bool.rec (motive := fun _ => List Pl) (ih done (fun d r => k d (x :: r))) (x :: ih (Nat.lor done (Nat.pow 2 x.i)) k) (bz x.hv false (rdy x done))
def passGo (l : List Pl) : Nat → (Nat → List Pl → List Pl) → List Pl := List.rec (motive := fun _ => Nat → (Nat → List Pl → List Pl) → List Pl) (fun done k => k done []) (fun x _ ih => passC x ih) l
def hvC (x : Pl) (t : List Pl) (ih : Nat → (Pl → List Pl → List Pl) → List Pl) (done : Nat) (k : Pl → List Pl → List Pl) : List Pl := Bool.rec (motive := fun _ => List Pl) (ih done (fun y r => k y (x :: r))) (k x t) (rdy x done)
def hvGo (l : List Pl) : Nat → (Pl → List Pl → List Pl) → List Pl := List.rec (motive := fun _ => Nat → (Pl → List Pl → List Pl) → List Pl) (fun _ _ => []) (fun x t ih => hvC x t ih) l
def ordN (n : Nat) : Nat → List Pl → List Pl := Nat.rec (motive := fun _ => Nat → List Pl → List Pl) (fun _ _ => []) (fun _ ih done l => passGo l done (fun d r => hvGo r d (fun y r => y :: ih (Nat.lor d (Nat.pow 2 y.i)) r))) n
def drawZ (n : Nat) (ps : List Pl) : Option (List CE) := bif Nat.beq ps.length n && (List.range n).all (bit (bitsOf (ps.map (·.i)))) then draws [] ps else none
def cDraw (P : Program) (G : Nat) (N : Nat) (ops : Array Oper) : Option (List CE) :=
  match cOpers P G N ops ops.toList with
  | none => none
  | some ces => drawZ ops.size (ordN ops.size 0 (zipPl ops.toList ces 0 0))

def cCode (P : Program) (G : Nat) (N : Nat) : Code → CC
  | .skip => .skip
  | .ret => .ret
  | .exit id => .exit id
  | .label _ => .skip
  | .seq a b => .seq (cCode P G N a) (cCode P G N b)
  | .cond c a b => (match opdOf G c with | some c => .cond c (cCode P G N a) (cCode P G N b) | none => .bad)
  | .block id b => .block id (cCode P G N b)
  | .loop b => .loop (cCode P G N b)
  | .scope b => cCode P G N b
  | .region _ ops draw => bif draw then (match cDraw P G N ops with | some l => .ops l | none => .bad) else (match cOpers P G N ops ops.toList with | some l => .ops l | none => .bad)
  | _ => .bad


/-! the same, the types looked up in a tree: quicker in the kernel -/
def treeOf : List TypeInfo → Nat → T TypeInfo → Option (T TypeInfo)
  | [], _, t => some t
  | x :: l, i, t => (match t.put i x with | some t' => treeOf l (Nat.succ i) t' | none => none)
def tyTree (P : Program) : T TypeInfo := match treeOf P.types.toList 0 .e with | some t => t | none => .e
def infoF (P : Program) (t : Nat) : Option TypeInfo := match (tyTree P).get t with | some i => some i | none => P.info? t
def treeFn : List Func → Nat → T Func → Option (T Func)
  | [], _, t => some t
  | x :: l, i, t => (match t.put i x with | some t' => treeFn l (Nat.succ i) t' | none => none)
def fnTree (P : Program) : T Func := match treeFn P.funcs.toList 0 .e with | some t => t | none => .e
def fnF (P : Program) (f : Nat) : Option Func := match (fnTree P).get f with | some i => some i | none => P.funcs[f]?
def undF (P : Program) (t : Nat) : Option TypeDesc :=
  match infoF P t with
  | some i => (match i.desc with
    | .named _ u => (match infoF P u with | some j => some j.desc | none => none)
    | d => some d)
  | none => none
section typesY
variable (P : Program) (G : Nat)
def tySizeY (t : Nat) : Option Nat := match infoF P t with | some i => some i.size | none => none
def tyAggY (t : Nat) : Option Bool := match undF P t with | some (.struct _) | some (.array _ _) => some true | some _ => some false | none => none
def tyZeroY (t : Nat) : Option AV := match infoF P t with | some i => (match i.zero with | some v => conv 3000 v | none => none) | none => none
def smallBytesY (t : Nat) : Bool := match infoF P t with | some i => Nat.ble i.bytes 1000000 | none => false
def tyZeroCY (t : Nat) : Option AV := match tyZeroY P t with | some z => some z.cells | none => none
def tyFieldY (s f : Nat) : Option (Nat × Nat) := match undF P s with | some (.struct fs) => (match fs[f]? with | some x => some (x.type, x.offset) | none => none) | _ => none
def tySliceY (t : Nat) : Option (Nat × Nat) := match undF P t with | some (.slice e) => (match tySizeY P e with | some s => some (e, s) | none => none) | _ => none
def tyArrY (t : Nat) : Option (Nat × Nat × Nat) := match undF P t with | some (.array n e) => (match tySizeY P e with | some s => some (n, e, s) | none => none) | _ => none
def sizedY : List Field → Bool
  | [] => true
  | f :: l => (match tySizeY P f.type with | some _ => sizedY l | none => false)
def partsSY (t : Nat) : List (Nat × Operand) → Option (List (Nat × Nat × CO))
  | [] => some []
  | (i, x) :: l => (match tyFieldY P t i with
    | some (ft, off) => (match tySizeY P ft, opdOf G x, partsSY t l with | some s, some a, some b => some ((off, s, a) :: b) | _, _, _ => none)
    | none => none)
def partsAY (G : Nat) (s : Nat) : List (Nat × Operand) → Option (List (Nat × Nat × CO))
  | [] => some []
  | (i, x) :: l => (match opdOf G x, partsAY G s l with | some a, some b => some ((i * s, s, a) :: b) | _, _ => none)


def eqSOfY (t : Nat) : Option EqS :=
  match undF P t with
  | some .bool => some .bool
  | some (.int _) => some .int
  | some .string => some .str
  | some (.pointer e) => (match tySizeY P e with | some (_ + 1) => some .ptr | _ => none)
  | some (.slice _) => some .slice
  | some (.map _ _) => some .map
  | some (.func _ _ _) => some .func
  | some (.interface _) => some .iface
  | _ => none
def eqFieldsY : List Field → Option (List (Nat × EqS))
  | [] => some []
  | f :: l => (match eqSOfY P f.type, eqFieldsY l with | some k, some m => bif f.name == "_" then none else some ((f.offset, k) :: m) | _, _ => none)
def eqKOfY (t : Nat) (cst : Bool) : Option EqK :=
  match eqSOfY P t with
  | some .iface => bif cst then some (.s .iface) else none
  | some k => some (.s k)
  | none => (match undF P t with
    | some (.struct fs) => bif P.stoodInHeld t || P.eqGuardType P.depth t then none else (match eqFieldsY P fs.toList with | some l => some (.flat l) | none => none)
    | _ => none)
def keyKindY (t : Nat) : Option EqS :=
  match undF P t with
  | some .bool => some .bool
  | some (.int _) => some .int
  | some .string => some .str
  | _ => none
def mapKindY (t : Nat) : Option EqS := match undF P t with | some (.map k _) => keyKindY P k | _ => none

def cConvertY (s d : Nat) (x : CO) : Option COp :=
  match undF P s, undF P d with
  | some (.int _), some (.int k) => some (.toInt k x)
  | some (.string), some .string => some (.toStr x)
  | some (.int _), some .string => some (.toStr x)
  | some (.slice e), some .string => (match undF P e with | some (.int .u8) => some (.bytesStr x) | _ => none)
  | some .string, some (.slice e) => (match undF P e with | some (.int .u8) => some (.toBytes e x) | _ => none)
  | some (.pointer t), some .unsafePointer => (match tySizeY P t with | some (_ + 1) => some (.toUp x) | _ => none)
  | some .unsafePointer, some (.pointer u) => (match tySizeY P u with | some (n + 1) => some (.fromUp u (n + 1) x) | _ => none)
  | _, _ => none

def cBuiltinY (b : Builtin) (ts : List Nat) (xs : List CO) : Option COp :=
  match b, ts, xs with
  | .len, [t], [x] => (match undF P t with
    | some .string => some (.len .str x)
    | some (.slice _) => some (.len .slice x)
    | some (.map _ _) => some (.len .map x)
    | some (.array n _) => some (.lenC n x)
    | some (.pointer a) => (match undF P a with | some (.array n _) => some (.lenC n x) | _ => none)
    | _ => none)
  | .cap, [t], [x] => (match undF P t with | some (.slice _) => some (.cap x) | _ => none)
  | .append, [t, u], [x, y] => (match tySliceY P t, undF P u with
    | some (e, s), some (.int _) => none
    | some (e, s), some _ => (match tyZeroCY P e with | some z => bif Nat.beq z.len s && smallBytesY P e && Nat.blt 0 s then some (.append s e x y) else none | none => none)
    | _, _ => none)
  | .copy, [t, _], [x, y] => (match tySliceY P t with | some (_, s) => some (.copy s x y) | none => none)
  | .min, _, xs => some (.minmax false xs)
  | .max, _, xs => some (.minmax true xs)
  | .delete, [t, _], [m, k] => o1 (mapKindY P t) fun q => some (.delete q m k)
  | .unsafeSliceData, _, [x] => some (.sdata x)
  | .unsafeString, t :: _, [x, n] => (match undF P t with | some (.pointer e) => (match tySizeY P e with | some 1 => some (.ustr e x n) | _ => none) | _ => none)
  | _, _, _ => none

def cOpY (op : Op) : Option COp :=
  match op with
  | .move x | .assign x => o1 (opdOf G x) fun a => some (.mv a)
  | .pick c a b => o1 (opdOf G c) fun c => o1 (opdOf G a) fun a => o1 (opdOf G b) fun b => some (.pick c a b)
  | .alloc t => o1 (tyZeroCY P t) fun z => some (.alloc z t)
  | .box t x => o1 (opdOf G x) fun x => some (.box t x)
  | .build t ps => (match tyZeroCY P t, undF P t with
    | some z, some (.struct fs) => bif sizedY P fs.toList then o1 (partsSY P G t ps.toList) fun l => some (.build z l) else none
    | some z, some (.array _ e) => o1 (tySizeY P e) fun s => o1 (partsAY G s ps.toList) fun l => some (.build z l)
    | _, _ => none)
  | .buildSlice t len ps => o1 (tySliceY P t) fun es => o1 (tyZeroCY P es.1) fun z => o1 (partsAY G es.2 ps.toList) fun l => bif Nat.beq z.len es.2 && Nat.ble (Nat.mul len es.2) 100000 && Nat.blt 0 es.2 then some (.bslice (z.rep len) len es.2 es.1 l) else none
  | .load t a => o1 (opdOf G a) fun x => o1 (tyAggY P t) fun g => bif g then o1 (tySizeY P t) fun n => some (.loads n x) else some (.load x)
  | .store t a x => o1 (opdOf G a) fun a => o1 (opdOf G x) fun x => o1 (tySizeY P t) fun n => some (.store n a x)
  | .nilCheck x => o1 (opdOf G x) fun x => some (.nilchk x)
  | .binOp op t x y _ => o1 (opdOf G x) fun x' => o1 (opdOf G y) fun y' => (match op with
    | .eql => o1 (eqKOfY P t (Region.isConst x || Region.isConst y)) fun k => some (.eq false k x' y')
    | .neq => o1 (eqKOfY P t (Region.isConst x || Region.isConst y)) fun k => some (.eq true k x' y')
    | op => some (.bin op x' y'))
  | .unOp op _ x => o1 (opdOf G x) fun x => (match op with | .not => some (.not x) | .neg => some (.neg x) | _ => none)
  | .convert s d x => o1 (opdOf G x) fun x => cConvertY P s d x
  | .makeInterface t x => o1 (opdOf G x) fun x => (match undF P t with | some (.interface _) => none | some _ => some (.iface t x) | none => none)
  | .makeFunc f a c => o1 (opdsOf G a.toList) fun a => o1 (opdsOf G c.toList) fun c => some (.func f a c)
  | .makeMap t r => (match r with | none => some .mkmap | some (.const (.int _ _)) => (match undF P t with | some (.map _ _) => some .mkmap | _ => none) | _ => none)
  | .makeSlice t l c => o1 (tySliceY P t) fun es => o1 (tyZeroCY P es.1) fun z => o1 (opdOf G l) fun l => o1 (opdOf G c) fun c => bif Nat.beq z.len es.2 && smallBytesY P es.1 && Nat.blt 0 es.2 then some (.mkslice z es.2 es.1 l c) else none
  | .slice t x lo hi mx => o1 (opdOf G x) fun x => o1 (opdO G lo) fun lo => o1 (opdO G hi) fun hi => o1 (opdO G mx) fun mx =>
    bif mx.isSome && !hi.isSome then none else (match undF P t with
    | some .string => bif mx.isSome then none else some (.slStr x lo hi)
    | some (.slice e) => o1 (tySizeY P e) fun s => some (.slice s x lo hi mx)
    | some (.array n e) => o1 (tySizeY P e) fun s => some (.slArr n s x lo hi mx)
    | some (.pointer a) => o1 (tyArrY P a) fun q => some (.slArr q.1 q.2.2 x lo hi mx)
    | _ => none)
  | .fieldAddr s x f => o1 (tyFieldY P s f) fun fo => (match tySizeY P fo.1 with | some (_ + 1) => o1 (opdOf G x) fun x => some (.faddr fo.2 x) | _ => none)
  | .field t x f => o1 (tyFieldY P t f) fun fo => o1 (opdOf G x) fun x => o1 (tyAggY P fo.1) fun g => bif g then o1 (tySizeY P fo.1) fun n => some (.fields fo.2 n x) else some (.field fo.2 x)
  | .indexAddr t x i => o1 (opdOf G x) fun x => o1 (opdOf G i) fun i => (match undF P t with
    | some (.array n e) => o1 (tySizeY P e) fun s => some (.idxA n s x i)
    | some (.slice e) => o1 (tySizeY P e) fun s => some (.idxS s x i)
    | _ => none)
  | .index t x i => o1 (opdOf G x) fun x => o1 (opdOf G i) fun i => (match undF P t with
    | some .string => some (.idxStr x i)
    | some (.array n e) => o1 (tySizeY P e) fun s => o1 (tyAggY P e) fun g => bif g then some (.idxVs n s x i) else some (.idxV n s x i)
    | _ => none)
  | .lookup t m k ok => (match undF P t with
    | some (.map kt e) => o1 (keyKindY P kt) fun q => o1 (tyZeroY P e) fun z => o1 (opdOf G m) fun m => o1 (opdOf G k) fun k => some (.lookup q z ok m k)
    | _ => none)
  | .mapUpdate t m k v | .insert t m k v => o1 (mapKindY P t) fun q => o1 (opdOf G m) fun m => o1 (opdOf G k) fun k => o1 (opdOf G v) fun v => some (.mapupd q m k v)
  | .range t x => o1 (opdOf G x) fun x => (match undF P t with | some .string => some (.range true x) | some (.map _ _) => some (.range false x) | _ => none)
  | .next it s => o1 (opdOf G it) fun x => some (.next s x)
  | .typeAssert x _ t ok => o1 (opdOf G x) fun x => (match undF P t with
    | some (.interface want) => bif ok then o1 (tyZeroY P t) fun z => some (.asI want.toList (some z) x) else some (.asI want.toList none x)
    | some _ => bif ok then o1 (tyZeroY P t) fun z => some (.asC t (some z) x) else some (.asC t none x)
    | none => none)
  | .extract x i => o1 (opdOf G x) fun x => some (.extract i x)
  | .call c => o1 (opdsOf G c.args.toList) fun xs => (match c.callee with
    | .builtin b => cBuiltinY P b c.argTypes.toList xs
    | .value f => o1 (opdOf G f) fun f => some (.call (.val f) xs)
    | .invoke r name => o1 (opdOf G r) fun r => some (.call (.inv r name) xs))
  | .defer c => o1 (opdsOf G c.args.toList) fun xs => (match c.callee with
    | .value f => o1 (opdOf G f) fun f => some (.defer f xs)
    | _ => none)
  | _ => none
/-! each operation by itself -/
/-- the same by recursors over closed constants: quicker in the kernel -/
def oB {α β : Type} (x : Option α) (f : α → Option β) : Option β := Option.rec (motive := fun _ => Option β) none f x
def vk_bool (b : Bool) (_ : Value) : Option CO := some (.c (.bool b))
def vk_int (k : IntKind) (n : Int) (_ : Value) : Option CO := some (.c (.int k n))
def vk_any (v : Value) : Option CO := match conv 600 v with | some x => some (.c x) | none => none
def constK (v : Value) : Option CO := Value.rec (motive_1 := fun _ => Value → Option CO) (motive_2 := fun _ => Unit) (motive_3 := fun _ => Unit) vk_bool vk_int (fun _ _ => vk_any) (fun _ _ _ => vk_any) (fun _ => vk_any) (fun _ => vk_any) (fun _ _ _ => vk_any) (fun _ => vk_any) (fun _ => vk_any) (fun _ _ _ _ _ => vk_any) vk_any (fun _ _ _ => vk_any) vk_any (fun _ _ => vk_any) (fun _ _ => vk_any) (fun _ _ => ()) () (fun _ _ _ _ => ()) v v
def ok_tmp (i : Nat) (_ : Nat) : Option CO := some (.t i)
def ok_const (v : Value) (_ : Nat) : Option CO := constK v
def ok_glob (g : Nat) (G : Nat) : Option CO := bif Nat.blt g G then some (.c (.ptr g 0)) else none
def ok_func (f : Nat) (_ : Nat) : Option CO := some (.c (.fn (.func f) .nil .nil))
def opdK (G : Nat) (x : Operand) : Option CO := Operand.rec (motive := fun _ => Nat → Option CO) ok_tmp ok_const ok_glob ok_func x G
def consK {α : Type} (a : Option α) (b : Option (List α)) : Option (List α) := oB a fun a => oB b fun b => some (a :: b)
def opdsK (G : Nat) (l : List Operand) : Option (List CO) := List.rec (motive := fun _ => Option (List CO)) (some []) (fun x _ ih => consK (opdK G x) ih) l
def kOp_move (x : Operand) : Option COp := oB (opdK G x) fun a => some (.mv a)
def kOp_pick (c : Operand) (a : Operand) (b : Operand) : Option COp := oB (opdK G c) fun c => oB (opdK G a) fun a => oB (opdK G b) fun b => some (.pick c a b)
def kOp_alloc (t : Nat) : Option COp := oB (tyZeroCY P t) fun z => some (.alloc z t)
def kOp_box (t : Nat) (x : Operand) : Option COp := oB (opdK G x) fun x => some (.box t x)
def kOp_build (t : Nat) (ps : Array (Nat × Operand)) : Option COp := (match tyZeroCY P t, undF P t with
    | some z, some (.struct fs) => bif sizedY P fs.toList then oB (partsSY P G t ps.toList) fun l => some (.build z l) else none
    | some z, some (.array _ e) => oB (tySizeY P e) fun s => oB (partsAY G s ps.toList) fun l => some (.build z l)
    | _, _ => none)
def kOp_buildSlice (t : Nat) (len : Nat) (ps : Array (Nat × Operand)) : Option COp := oB (tySliceY P t) fun es => oB (tyZeroCY P es.1) fun z => oB (partsAY G es.2 ps.toList) fun l => bif Nat.beq z.len es.2 && Nat.ble (Nat.mul len es.2) 100000 && Nat.blt 0 es.2 then some (.bslice (z.rep len) len es.2 es.1 l) else none
def kOp_load (t : Nat) (a : Operand) : Option COp := oB (opdK G a) fun x => oB (tyAggY P t) fun g => bif g then oB (tySizeY P t) fun n => some (.loads n x) else some (.load x)
def kOp_store (t : Nat) (a : Operand) (x : Operand) : Option COp := oB (opdK G a) fun a => oB (opdK G x) fun x => oB (tySizeY P t) fun n => some (.store n a x)
def kOp_nilCheck (x : Operand) : Option COp := oB (opdK G x) fun x => some (.nilchk x)
def kOp_binOp (op : BinOp) (t : Nat) (x : Operand) (y : Operand) : Option COp := oB (opdK G x) fun x' => oB (opdK G y) fun y' => (match op with
    | .eql => oB (eqKOfY P t (Region.isConst x || Region.isConst y)) fun k => some (.eq false k x' y')
    | .neq => oB (eqKOfY P t (Region.isConst x || Region.isConst y)) fun k => some (.eq true k x' y')
    | op => some (.bin op x' y'))
def kOp_unOp (op : UnOp) (x : Operand) : Option COp := oB (opdK G x) fun x => (match op with | .not => some (.not x) | .neg => some (.neg x) | _ => none)
def kOp_convert (s : Nat) (d : Nat) (x : Operand) : Option COp := oB (opdK G x) fun x => cConvertY P s d x
def kOp_makeInterface (t : Nat) (x : Operand) : Option COp := oB (opdK G x) fun x => (match undF P t with | some (.interface _) => none | some _ => some (.iface t x) | none => none)
def kOp_makeFunc (f : Fn) (a : Array Operand) (c : Array Operand) : Option COp := oB (opdsK G a.toList) fun a => oB (opdsK G c.toList) fun c => some (.func f a c)
def kOp_makeMap (t : Nat) (r : Option Operand) : Option COp := (match r with | none => some .mkmap | some (.const (.int _ _)) => (match undF P t with | some (.map _ _) => some .mkmap | _ => none) | _ => none)
def kOp_makeSlice (t : Nat) (l : Operand) (c : Operand) : Option COp := oB (tySliceY P t) fun es => oB (tyZeroCY P es.1) fun z => oB (opdK G l) fun l => oB (opdK G c) fun c => bif Nat.beq z.len es.2 && smallBytesY P es.1 && Nat.blt 0 es.2 then some (.mkslice z es.2 es.1 l c) else none
def kOp_slice (t : Nat) (x : Operand) (lo : Option Operand) (hi : Option Operand) (mx : Option Operand) : Option COp := oB (opdK G x) fun x => oB (opdO G lo) fun lo => oB (opdO G hi) fun hi => oB (opdO G mx) fun mx =>
    bif mx.isSome && !hi.isSome then none else (match undF P t with
    | some .string => bif mx.isSome then none else some (.slStr x lo hi)
    | some (.slice e) => oB (tySizeY P e) fun s => some (.slice s x lo hi mx)
    | some (.array n e) => oB (tySizeY P e) fun s => some (.slArr n s x lo hi mx)
    | some (.pointer a) => oB (tyArrY P a) fun q => some (.slArr q.1 q.2.2 x lo hi mx)
    | _ => none)
def kOp_fieldAddr (s : Nat) (x : Operand) (f : Nat) : Option COp := oB (tyFieldY P s f) fun fo => (match tySizeY P fo.1 with | some (_ + 1) => oB (opdK G x) fun x => some (.faddr fo.2 x) | _ => none)
def kOp_field (t : Nat) (x : Operand) (f : Nat) : Option COp := oB (tyFieldY P t f) fun fo => oB (opdK G x) fun x => oB (tyAggY P fo.1) fun g => bif g then oB (tySizeY P fo.1) fun n => some (.fields fo.2 n x) else some (.field fo.2 x)
def kOp_indexAddr (t : Nat) (x : Operand) (i : Operand) : Option COp := oB (opdK G x) fun x => oB (opdK G i) fun i => (match undF P t with
    | some (.array n e) => oB (tySizeY P e) fun s => some (.idxA n s x i)
    | some (.slice e) => oB (tySizeY P e) fun s => some (.idxS s x i)
    | _ => none)
def kOp_index (t : Nat) (x : Operand) (i : Operand) : Option COp := oB (opdK G x) fun x => oB (opdK G i) fun i => (match undF P t with
    | some .string => some (.idxStr x i)
    | some (.array n e) => oB (tySizeY P e) fun s => oB (tyAggY P e) fun g => bif g then some (.idxVs n s x i) else some (.idxV n s x i)
    | _ => none)
def kOp_lookup (t : Nat) (m : Operand) (k : Operand) (ok : Bool) : Option COp := (match undF P t with
    | some (.map kt e) => oB (keyKindY P kt) fun q => oB (tyZeroY P e) fun z => oB (opdK G m) fun m => oB (opdK G k) fun k => some (.lookup q z ok m k)
    | _ => none)
def kOp_mapUpdate (t : Nat) (m : Operand) (k : Operand) (v : Operand) : Option COp := oB (mapKindY P t) fun q => oB (opdK G m) fun m => oB (opdK G k) fun k => oB (opdK G v) fun v => some (.mapupd q m k v)
def kOp_range (t : Nat) (x : Operand) : Option COp := oB (opdK G x) fun x => (match undF P t with | some .string => some (.range true x) | some (.map _ _) => some (.range false x) | _ => none)
def kOp_next (it : Operand) (s : Bool) : Option COp := oB (opdK G it) fun x => some (.next s x)
def kOp_typeAssert (x : Operand) (t : Nat) (ok : Bool) : Option COp := oB (opdK G x) fun x => (match undF P t with
    | some (.interface want) => bif ok then oB (tyZeroY P t) fun z => some (.asI want.toList (some z) x) else some (.asI want.toList none x)
    | some _ => bif ok then oB (tyZeroY P t) fun z => some (.asC t (some z) x) else some (.asC t none x)
    | none => none)
def kOp_extract (x : Operand) (i : Nat) : Option COp := oB (opdK G x) fun x => some (.extract i x)
def kOp_call (c : Call) : Option COp := oB (opdsK G c.args.toList) fun xs => (match c.callee with
    | .builtin b => cBuiltinY P b c.argTypes.toList xs
    | .value f => oB (opdK G f) fun f => some (.call (.val f) xs)
    | .invoke r name => oB (opdK G r) fun r => some (.call (.inv r name) xs))
def kOp_defer (c : Call) : Option COp := oB (opdsK G c.args.toList) fun xs => (match c.callee with
    | .value f => oB (opdK G f) fun f => some (.defer f xs)
    | _ => none)
end typesY
section
def q_move (x : Operand) (P : Program) (G : Nat) : Option COp := kOp_move G x
def q_assign (x : Operand) (P : Program) (G : Nat) : Option COp := kOp_move G x
def q_pick (c : Operand) (a : Operand) (b : Operand) (P : Program) (G : Nat) : Option COp := kOp_pick G c a b
def q_alloc (t : Nat) (P : Program) (G : Nat) : Option COp := kOp_alloc P t
def q_box (t : Nat) (x : Operand) (P : Program) (G : Nat) : Option COp := kOp_box G t x
def q_build (t : Nat) (ps : Array (Nat × Operand)) (P : Program) (G : Nat) : Option COp := kOp_build P G t ps
def q_buildSlice (t : Nat) (len : Nat) (ps : Array (Nat × Operand)) (P : Program) (G : Nat) : Option COp := kOp_buildSlice P G t len ps
def q_insert (t : Nat) (m : Operand) (k : Operand) (v : Operand) (P : Program) (G : Nat) : Option COp := kOp_mapUpdate P G t m k v
def q_load (t : Nat) (a : Operand) (P : Program) (G : Nat) : Option COp := kOp_load P G t a
def q_store (t : Nat) (a : Operand) (x : Operand) (P : Program) (G : Nat) : Option COp := kOp_store P G t a x
def q_ready (g : Nat) (P : Program) (G : Nat) : Option COp := none
def q_waits (g : Nat) (P : Program) (G : Nat) : Option COp := none
def q_nilCheck (x : Operand) (P : Program) (G : Nat) : Option COp := kOp_nilCheck G x
def q_binOp (op : BinOp) (t : Nat) (x : Operand) (y : Operand) (z : Nat) (P : Program) (G : Nat) : Option COp := kOp_binOp P G op t x y
def q_unOp (op : UnOp) (z : Nat) (x : Operand) (P : Program) (G : Nat) : Option COp := kOp_unOp G op x
def q_convert (s : Nat) (d : Nat) (x : Operand) (P : Program) (G : Nat) : Option COp := kOp_convert P G s d x
def q_sliceToArrayPointer (d : Nat) (x : Operand) (P : Program) (G : Nat) : Option COp := none
def q_makeInterface (t : Nat) (x : Operand) (P : Program) (G : Nat) : Option COp := kOp_makeInterface P G t x
def q_makeFunc (f : Fn) (a : Array Operand) (c : Array Operand) (P : Program) (G : Nat) : Option COp := kOp_makeFunc G f a c
def q_makeMap (t : Nat) (r : Option Operand) (P : Program) (G : Nat) : Option COp := kOp_makeMap P t r
def q_makeChan (t : Nat) (x : Operand) (P : Program) (G : Nat) : Option COp := none
def q_makeSlice (t : Nat) (l : Operand) (c : Operand) (P : Program) (G : Nat) : Option COp := kOp_makeSlice P G t l c
def q_slice (t : Nat) (x : Operand) (lo : Option Operand) (hi : Option Operand) (mx : Option Operand) (P : Program) (G : Nat) : Option COp := kOp_slice P G t x lo hi mx
def q_fieldAddr (s : Nat) (x : Operand) (f : Nat) (P : Program) (G : Nat) : Option COp := kOp_fieldAddr P G s x f
def q_field (t : Nat) (x : Operand) (f : Nat) (P : Program) (G : Nat) : Option COp := kOp_field P G t x f
def q_indexAddr (t : Nat) (x : Operand) (i : Operand) (P : Program) (G : Nat) : Option COp := kOp_indexAddr P G t x i
def q_index (t : Nat) (x : Operand) (i : Operand) (P : Program) (G : Nat) : Option COp := kOp_index P G t x i
def q_lookup (t : Nat) (m : Operand) (k : Operand) (ok : Bool) (P : Program) (G : Nat) : Option COp := kOp_lookup P G t m k ok
def q_mapUpdate (t : Nat) (m : Operand) (k : Operand) (v : Operand) (P : Program) (G : Nat) : Option COp := kOp_mapUpdate P G t m k v
def q_mapEntry (t : Nat) (m : Operand) (k : Operand) (P : Program) (G : Nat) : Option COp := none
def q_entryStore (t : Nat) (m : Operand) (k : Operand) (v : Operand) (P : Program) (G : Nat) : Option COp := none
def q_range (t : Nat) (x : Operand) (P : Program) (G : Nat) : Option COp := kOp_range P G t x
def q_next (it : Operand) (s : Bool) (P : Program) (G : Nat) : Option COp := kOp_next G it s
def q_entry (x : Operand) (P : Program) (G : Nat) : Option COp := none
def q_typeAssert (x : Operand) (z : Nat) (t : Nat) (ok : Bool) (P : Program) (G : Nat) : Option COp := kOp_typeAssert P G x t ok
def q_extract (x : Operand) (i : Nat) (P : Program) (G : Nat) : Option COp := kOp_extract G x i
def q_call (c : Call) (P : Program) (G : Nat) : Option COp := kOp_call P G c
def q_go (c : Call) (P : Program) (G : Nat) : Option COp := none
def q_defer (c : Call) (P : Program) (G : Nat) : Option COp := kOp_defer G c
def q_panic (x : Operand) (P : Program) (G : Nat) : Option COp := none
def q_send (x : Operand) (y : Operand) (P : Program) (G : Nat) : Option COp := none
def q_recv (t : Nat) (x : Operand) (ok : Bool) (P : Program) (G : Nat) : Option COp := none
def q_select (cs : Array SelectCase) (b : Bool) (P : Program) (G : Nat) : Option COp := none
end
def cOpK (P : Program) (G : Nat) (op : Op) : Option COp := Op.rec (motive := fun _ => Program → Nat → Option COp) q_move q_assign q_pick q_alloc q_box q_build q_buildSlice q_insert q_load q_store q_ready q_waits q_nilCheck q_binOp q_unOp q_convert q_sliceToArrayPointer q_makeInterface q_makeFunc q_makeMap q_makeChan q_makeSlice q_slice q_fieldAddr q_field q_indexAddr q_index q_lookup q_mapUpdate q_mapEntry q_entryStore q_range q_next q_entry q_typeAssert q_extract q_call q_go q_defer q_panic q_send q_recv q_select op P G
def kindK (co : COp) : Nat := COp.rec (motive := fun _ => Nat) (fun _ => 0) (fun _ _ _ => 0) (fun _ _ _ => 0) (fun _ _ _ _ => 0) (fun _ => 0) (fun _ => 0) (fun _ _ => 0) (fun _ => 0) (fun _ _ => 0) (fun _ _ _ => 0) (fun _ _ => 0) (fun _ _ => 0) (fun _ _ _ => 0) (fun _ _ _ _ => 0) (fun _ _ _ => 0) (fun _ _ => 0) (fun _ _ _ _ => 0) (fun _ _ _ _ => 0) (fun _ _ => 0) (fun _ _ _ => 0) (fun _ _ _ _ _ _ => 0) (fun _ _ => 0) (fun _ _ _ => 0) (fun _ _ _ => 0) (fun _ => 1) (fun _ _ => 1) (fun _ _ _ _ _ => 1) (fun _ _ => 1) (fun _ _ => 1) (fun _ => 1) (fun _ _ _ _ _ => 1) (fun _ => 1) (fun _ => 1) (fun _ => 1) (fun _ _ _ => 1) (fun _ => 1) (fun _ _ => 2) (fun _ _ => 2) (fun _ _ _ _ _ => 2) 2 (fun _ _ _ _ _ => 2) (fun _ _ => 2) (fun _ _ _ => 3) (fun _ _ _ _ => 3) (fun _ _ => 3) (fun _ _ => 3) (fun _ _ _ _ => 3) (fun _ _ _ => 3) (fun _ _ _ => 3) (fun _ _ => 3) (fun _ _ _ => 3) (fun _ _ => 3) (fun _ _ => 3) co
def cGuardK (ops : Array Oper) (g : Option (Nat × Bool)) : Option (Option (Nat × Bool)) := Option.rec (motive := fun _ => Option (Option (Nat × Bool))) (some none) (fun p => cGuard ops (some p)) g
def dstK (N : Nat) (d : Option Nat) (g : Option (Nat × Bool)) (co : COp) : Option CE := Option.rec (motive := fun _ => Option CE) (some ⟨none, g, kindK co, co, []⟩) (fun d => Bool.rec (motive := fun _ => Option CE) none (some ⟨some d, g, kindK co, co, []⟩) (Nat.blt d N)) d
def cOperK (P : Program) (G : Nat) (N : Nat) (ops : Array Oper) (o : Oper) : Option CE := oB (cOpK P G o.op) fun co => oB (cGuardK ops o.guard) fun g => dstK N o.dst g co
def cOpersK (P : Program) (G : Nat) (N : Nat) (ops : Array Oper) (l : List Oper) : Option (List CE) := List.rec (motive := fun _ => Option (List CE)) (some []) (fun o _ ih => consK (cOperK P G N ops o) ih) l
def cDrawK (P : Program) (G : Nat) (N : Nat) (ops : Array Oper) : Option (List CE) := oB (cOpersK P G N ops ops.toList) fun ces => drawZ ops.size (ordN ops.size 0 (zipPl ops.toList ces 0 0))
def opsC (o : Option (List CE)) : CC := Option.rec (motive := fun _ => CC) .bad .ops o
def cc_bad (_ : Program) (_ _ : Nat) : CC := .bad
def cc_skip (_ : Program) (_ _ : Nat) : CC := .skip
def cc_ret (_ : Program) (_ _ : Nat) : CC := .ret
def cc_exit (id : Nat) (_ : Program) (_ _ : Nat) : CC := .exit id
def cc_label (_ : Nat) (_ : Program) (_ _ : Nat) : CC := .skip
def cc_goto (_ : Nat) (_ : Program) (_ _ : Nat) : CC := .bad
def cc_refuse (_ : String) (_ : Program) (_ _ : Nat) : CC := .bad
def cc_rf (_ : Operand) (_ : Array Nat) (_ _ : Code) (_ _ : Program → Nat → Nat → CC) (_ : Program) (_ _ : Nat) : CC := .bad
def cc_seq (_ _ : Code) (a b : Program → Nat → Nat → CC) (P : Program) (G N : Nat) : CC := .seq (a P G N) (b P G N)
def cc_cond (c : Operand) (_ _ : Code) (a b : Program → Nat → Nat → CC) (P : Program) (G N : Nat) : CC := Option.rec (motive := fun _ => CC) .bad (fun c => .cond c (a P G N) (b P G N)) (opdK G c)
def cc_block (id : Nat) (_ : Code) (b : Program → Nat → Nat → CC) (P : Program) (G N : Nat) : CC := .block id (b P G N)
def cc_loop (_ : Code) (b : Program → Nat → Nat → CC) (P : Program) (G N : Nat) : CC := .loop (b P G N)
def cc_scope (_ : Code) (b : Program → Nat → Nat → CC) (P : Program) (G N : Nat) : CC := b P G N
def cc_region (_ : Nat) (ops : Array Oper) (draw : Bool) (P : Program) (G N : Nat) : CC := Bool.rec (motive := fun _ => CC) (opsC (cOpersK P G N ops ops.toList)) (opsC (cDrawK P G N ops)) draw
def cCodeK (P : Program) (G : Nat) (N : Nat) (c : Code) : CC := Code.rec (motive := fun _ => Program → Nat → Nat → CC) cc_skip cc_region cc_seq cc_cond cc_block cc_loop cc_rf cc_exit cc_scope cc_label cc_goto cc_ret cc_refuse c P G N

inductive CRes where
  | t (i : Nat)
  | c (i : Nat) (n : Option Nat)

def cRes (P : Program) : List ResultVar → Option (List CRes)
  | [] => some []
  | .tmp i :: l => (match cRes P l with | some l => some (.t i :: l) | none => none)
  | .cell i t :: l => (match tyAgg P t, tySize P t, cRes P l with
    | some true, some n, some l => some (.c i (some n) :: l)
    | some false, _, some l => some (.c i none :: l)
    | _, _, _ => none)

def cResY (P : Program) : List ResultVar → Option (List CRes)
  | [] => some []
  | .tmp i :: l => (match cResY P l with | some l => some (.t i :: l) | none => none)
  | .cell i t :: l => (match tyAggY P t, tySizeY P t, cResY P l with
    | some true, some n, some l => some (.c i (some n) :: l)
    | some false, _, some l => some (.c i none :: l)
    | _, _, _ => none)

inductive CF where
  | bad
  | go (c : CC) (N : Nat) (res : List CRes)
  | ext (x : Ext)

def cFn (P : Program) (G : Nat) (f : Nat) : CF :=
  match fnF P f with
  | none => .bad
  | some fn => (match fn.body with
    | none => .ext (extOf P fn)
    | some c => (match cResY P fn.results.toList with | some r => .go (cCodeK P G fn.ntmps c) fn.ntmps r | none => .bad))

abbrev DS := List (Nat × AV)

inductive ER where
  | no
  /-- 0 on, 1 returns, n + 2 leaves block n -/
  | ok (x : Nat) (tm : T AV) (H : Hp) (nx : Nat) (ds : DS)

inductive VRes where
  | no
  | ok (v : AV) (H : Hp) (nx : Nat)

def resA (tm : T AV) (H : Hp) : List CRes → Option AV
  | [] => some .nil
  | .t i :: l => (match tm.get i with | some v => (match resA tm H l with | some m => some (.cons v m) | none => none) | none => none)
  | .c i n :: l => (match tm.get i with
    | some (.ptr id off) => (match (match n with | some n => (match rdAt H id off n with | some l => some (AV.agg l) | none => none) | none => (match H.get id with | some (.cells c _ _ _) => c.get off | _ => none)) with
      | some v => (match resA tm H l with | some m => some (.cons v m) | none => none)
      | none => none)
    | _ => none)

def resOf (l : AV) : AV := match l with | .cons v .nil => v | l => .tup l

def putD (tm : T AV) (d : Option Nat) (v : AV) : Option (T AV) :=
  Option.rec (motive := fun _ => Option (T AV)) (some tm) (fun i => tm.put i v) d

def holdsG (tm : T AV) (g : Option (Nat × Bool)) : Option Bool :=
  match g with
  | none => some true
  | some (d, want) => (match tm.get d with | some (.bool b) => some (b == want) | some .unk => none | some _ => some false | none => none)

def sameO : Option Int → Option Int → Bool
  | none, none => true
  | some a, some b => ieq a b
  | _, _ => false
def sameAV : Nat → AV → AV → Bool
  | 0, _, _ => false
  | d + 1, x, y => match x, y with
    | .bool a, .bool b => a == b
    | .int k a, .int j b => Nat.beq (kcode k) (kcode j) && ieq a b
    | .str a, .str b => natsEq a b
    | .nilPtr, .nilPtr | .nilSl, .nilSl | .slE, .slE | .nilMap, .nilMap | .nilFn, .nilFn | .nilIface, .nilIface | .nil, .nil | .unk, .unk => true
    | .rng a b, .rng c d => sameO a c && sameO b d
    | .ptr i o, .ptr j q => Nat.beq i j && Nat.beq o q
    | .sl i o n c, .sl j q m d => Nat.beq i j && Nat.beq o q && Nat.beq n m && (match c, d with | none, none => true | some a, some b => Nat.beq a b | _, _ => false)
    | .map i, .map j => Nat.beq i j
    | .iface t a, .iface u b => Nat.beq t u && sameAV d a b
    | .cons a x, .cons b y => sameAV d a b && sameAV d x y
    | .agg a, .agg b | .tup a, .tup b => sameAV d a b
    | _, _ => false

def chkA (P : Program) (tm : T AV) (H : Hp) : List (Option (Nat × Bool) × COp × Nat) → Bool
  | [] => true
  | (g, co, d) :: l => (match holdsG tm g with
    | some false => chkA P tm H l
    | some true => (match readA P co tm H, tm.get d with | some a, some b => bif sameAV 1000 a b then chkA P tm H l else false | _, _ => false)
    | none => false)

def initT (N : Nat) (args : AV) : Option (T AV) := bif Nat.ble args.len N && Nat.ble N 4096 then putCells (T.rep undefA N N) 0 args else none

section
variable (P : Program) (G : Nat)

def opA (ih : Nat → AV → Hp → Nat → VRes) (ce : CE) (tm : T AV) (H : Hp) (nx : Nat) (ds : DS) (k : T AV → Hp → Nat → DS → ER) : ER :=
  Option.rec (motive := fun _ => ER) .no (fun b => Bool.rec (motive := fun _ => ER)
      (Option.rec (motive := fun _ => ER) .no (fun tm => k tm H nx ds) (putD tm ce.dst undefA))
      (Nat.rec (motive := fun _ => ER)
        (Option.rec (motive := fun _ => ER) .no (fun v => Option.rec (motive := fun _ => ER) .no (fun tm => k tm H nx ds) (putD tm ce.dst v)) (pureA P ce.co tm))
        (fun i _ => Nat.rec (motive := fun _ => ER)
          (Option.rec (motive := fun _ => ER) .no (fun v => Option.rec (motive := fun _ => ER) .no (fun tm => k tm H nx ds) (putD tm ce.dst v)) (readA P ce.co tm H))
          (fun j _ => Nat.rec (motive := fun _ => ER)
            (match newA ce.co tm nx with
              | none => .no
              | some (v, o) => (match H.put nx o, putD tm ce.dst v with | some H, some tm => k tm H (Nat.succ nx) ds | _, _ => .no))
            (fun _ _ => match heavyA P G ce.co tm H nx with
              | .no => .no
              | .v a H nx => (match putD tm ce.dst a with | some tm => bif chkA P tm H ce.chk then k tm H nx ds else .no | none => .no)
              | .call f args => (match ih f args H nx with
                | .no => .no
                | .ok a H nx => (match putD tm ce.dst a with | some tm => bif chkA P tm H ce.chk then k tm H nx ds else .no | none => .no))
              | .defer f args => (match putD tm ce.dst undefA with | some tm => bif chkA P tm H ce.chk then k tm H nx ((f, args) :: ds) else .no | none => .no)) j) i) ce.kd) b) (holdsG tm ce.guard)

def opsA (ih : Nat → AV → Hp → Nat → VRes) (l : List CE) : T AV → Hp → Nat → DS → ER :=
  List.rec (motive := fun _ => T AV → Hp → Nat → DS → ER) (fun tm H nx ds => .ok 0 tm H nx ds) (fun ce _ k tm H nx ds => opA P G ih ce tm H nx ds k) l

def runD (ih : Nat → AV → Hp → Nat → VRes) : DS → Hp → Nat → VRes
  | [], H, nx => .ok undefA H nx
  | (f, a) :: l, H, nx => (match ih f a H nx with | .ok _ H nx => runD ih l H nx | .no => .no)

def callA (ih : CC → T AV → Hp → Nat → DS → ER) (rd : Nat → AV → Hp → Nat → VRes) (f : Nat) (args : AV) (H : Hp) (nx : Nat) : VRes :=
  match cFn P G f with
  | .bad => .no
  | .ext x => (match extA x args H nx with | .v a H nx => .ok a H nx | _ => .no)
  | .go c N res => (match initT N args with
    | none => .no
    | some tm => (match ih c tm H nx [] with
      | .no => .no
      | .ok x tm H nx ds => bif Nat.ble x 1 then (match runD rd ds H nx with
          | .no => .no
          | .ok _ H nx => (match resA tm H res with | some l => .ok (resOf l) H nx | none => .no)) else .no))

def stepC (cf : Nat → AV → Hp → Nat → VRes) (ih : CC → T AV → Hp → Nat → DS → ER) (c : CC) (tm : T AV) (H : Hp) (nx : Nat) (ds : DS) : ER :=
  match c with
  | .bad => .no
  | .skip => .ok 0 tm H nx ds
  | .ret => .ok 1 tm H nx ds
  | .exit id => .ok (Nat.add id 2) tm H nx ds
  | .seq a b => (match ih a tm H nx ds with | .ok x tm H nx ds => (match x with | 0 => ih b tm H nx ds | x + 1 => .ok (x + 1) tm H nx ds) | .no => .no)
  | .cond c a b => (match opd tm c with | some (.bool t) => (match t with | true => ih a tm H nx ds | false => ih b tm H nx ds) | _ => .no)
  | .block id b => (match ih b tm H nx ds with | .ok x tm H nx ds => bif Nat.beq x (Nat.add id 2) then .ok 0 tm H nx ds else .ok x tm H nx ds | .no => .no)
  | .loop b => (match ih b tm H nx ds with | .ok x tm H nx ds => (match x with | 0 => ih (.loop b) tm H nx ds | x + 1 => .ok (x + 1) tm H nx ds) | .no => .no)
  | .ops l => opsA P G cf l tm H nx ds

def stepA (ih : CC → T AV → Hp → Nat → DS → ER) (rd : Nat → AV → Hp → Nat → VRes) : CC → T AV → Hp → Nat → DS → ER := stepC P G (callA P G ih rd) ih

/-- a deferred call is passed by: that of the function `rf`, which does nothing on a plain way out -/
def rdA (rf : Nat) : Nat → AV → Hp → Nat → VRes := fun f _ H nx => bif Nat.beq f rf then .ok undefA H nx else .no

def ev (rf : Nat) (n : Nat) : CC → T AV → Hp → Nat → DS → ER :=
  Nat.rec (motive := fun _ => CC → T AV → Hp → Nat → DS → ER) (fun _ _ _ _ _ => .no) (fun _ ih => stepA P G ih (rdA rf)) n

def evCall (rf : Nat) (n : Nat) (f : Nat) (args : AV) (H : Hp) (nx : Nat) : VRes := callA P G (ev P G rf n) (rdA rf) f args H nx
end
end Go.Ev

namespace Go.Ev

/-! A quick evaluator: what is compiled is closures, kept in structures; what follows is told to each. -/
abbrev K := T AV → Hp → Nat → DS → VRes
abbrev KC := AV → Hp → Nat → VRes
abbrev CLf := Nat → AV → Hp → Nat → KC → VRes
structure Gt where
  g : T AV → Option AV
structure Sd where
  s : T AV → AV → T AV
  ok : Bool
structure Fo where
  run : CLf → K → K
structure FC where
  run : CLf → Nat → K → (Nat → K) → K
structure FF where
  run : CLf → Nat → AV → Hp → Nat → KC → VRes

def small (i : Nat) : Bool := Nat.ble (Nat.succ i) 4096
def gtOf (g : T AV → Option AV) (_ : T AV → Option AV → T AV) : Gt := ⟨g⟩
def sdOf (i : Nat) (_ : T AV → Option AV) (s : T AV → Option AV → T AV) : Sd := ⟨fun tm v => s tm (some v), small i⟩
def mkG (x : CO) : Gt := CO.rec (motive := fun _ => Gt) (fun i => Bool.rec (motive := fun _ => Gt) ⟨fun tm => tm.get i⟩ (Ac.rec (motive := fun _ => Gt) gtOf (T.acc AV i)) (small i)) (fun v => ⟨fun _ => some v⟩) x
def mkS (d : Option Nat) : Sd := Option.rec (motive := fun _ => Sd) ⟨fun tm _ => tm, true⟩ (fun i => Ac.rec (motive := fun _ => Sd) (sdOf i) (T.acc AV i)) d
def optE {α : Type} (o : Option α) (c : α → VRes) (d : VRes) : VRes := Option.rec (motive := fun _ => VRes) d c o
def boE (b : Bool) (c d : VRes) : VRes := Bool.rec (motive := fun _ => VRes) d c b
def vNat (n : Int) (c : Nat → VRes) (d : VRes) : VRes := Int.rec (motive := fun _ => VRes) c (fun _ => d) n
abbrev CO4 := T AV → Nat → Nat → Nat → VRes
def vCells (o : AO) (c : CO4) (d : VRes) : VRes := AO.rec (motive := fun _ => VRes) c (fun _ _ => d) (fun _ _ _ _ => d) (fun _ _ => d) d o
def asIntx0 (_ : Bool) (_ : IntKind → Int → VRes) (d : VRes) : VRes := d
def asInt_int (k : IntKind) (n : Int) (c : IntKind → Int → VRes) (d : VRes) : VRes := c k n
def asIntx1 (_ : List Nat) (_ : IntKind → Int → VRes) (d : VRes) : VRes := d
def asIntx2  (_ : IntKind → Int → VRes) (d : VRes) : VRes := d
def asIntx3 (_ _ : Nat) (_ : IntKind → Int → VRes) (d : VRes) : VRes := d
def asIntx4 (_ _ _ : Nat) (_ : Option Nat) (_ : IntKind → Int → VRes) (d : VRes) : VRes := d
def asIntx5 (_ : Nat) (_ : IntKind → Int → VRes) (d : VRes) : VRes := d
def asIntx6 (_ : Fn) (_ _ : AV) (_ _ : ((IntKind → Int → VRes) → VRes → VRes)) (_ : IntKind → Int → VRes) (d : VRes) : VRes := d
def asIntx7 (_ : Nat) (_ : AV) (_ : ((IntKind → Int → VRes) → VRes → VRes)) (_ : IntKind → Int → VRes) (d : VRes) : VRes := d
def asIntx8 (_ _ : AV) (_ _ : ((IntKind → Int → VRes) → VRes → VRes)) (_ : IntKind → Int → VRes) (d : VRes) : VRes := d
def asIntx9 (_ : AV) (_ : ((IntKind → Int → VRes) → VRes → VRes)) (_ : IntKind → Int → VRes) (d : VRes) : VRes := d
def asIntx10 (_ _ : Option Int) (_ : IntKind → Int → VRes) (d : VRes) : VRes := d
def asIntx11 (_ : IntKind) (_ _ : Nat) (_ : IntKind → Int → VRes) (d : VRes) : VRes := d
def vInt (v : AV) : (IntKind → Int → VRes) → VRes → VRes := AV.rec (motive := fun _ => (IntKind → Int → VRes) → VRes → VRes) asIntx0 asInt_int asIntx1 asIntx2 asIntx3 asIntx2 asIntx4 asIntx2 asIntx2 asIntx5 asIntx6 asIntx2 asIntx7 asIntx2 asIntx2 asIntx8 asIntx9 asIntx9 asIntx2 asIntx10 asIntx11 v
def asPtrx0 (_ : Bool) (_ : Nat → Nat → VRes) (d : VRes) : VRes := d
def asPtrx1 (_ : IntKind) (_ : Int) (_ : Nat → Nat → VRes) (d : VRes) : VRes := d
def asPtrx2 (_ : List Nat) (_ : Nat → Nat → VRes) (d : VRes) : VRes := d
def asPtrx3  (_ : Nat → Nat → VRes) (d : VRes) : VRes := d
def asPtr_ptr (a b : Nat) (c : Nat → Nat → VRes) (d : VRes) : VRes := c a b
def asPtrx4 (_ _ _ : Nat) (_ : Option Nat) (_ : Nat → Nat → VRes) (d : VRes) : VRes := d
def asPtrx5 (_ : Nat) (_ : Nat → Nat → VRes) (d : VRes) : VRes := d
def asPtrx6 (_ : Fn) (_ _ : AV) (_ _ : ((Nat → Nat → VRes) → VRes → VRes)) (_ : Nat → Nat → VRes) (d : VRes) : VRes := d
def asPtrx7 (_ : Nat) (_ : AV) (_ : ((Nat → Nat → VRes) → VRes → VRes)) (_ : Nat → Nat → VRes) (d : VRes) : VRes := d
def asPtrx8 (_ _ : AV) (_ _ : ((Nat → Nat → VRes) → VRes → VRes)) (_ : Nat → Nat → VRes) (d : VRes) : VRes := d
def asPtrx9 (_ : AV) (_ : ((Nat → Nat → VRes) → VRes → VRes)) (_ : Nat → Nat → VRes) (d : VRes) : VRes := d
def asPtrx10 (_ _ : Option Int) (_ : Nat → Nat → VRes) (d : VRes) : VRes := d
def asPtrx11 (_ : IntKind) (_ _ : Nat) (_ : Nat → Nat → VRes) (d : VRes) : VRes := d
def vPtr (v : AV) : (Nat → Nat → VRes) → VRes → VRes := AV.rec (motive := fun _ => (Nat → Nat → VRes) → VRes → VRes) asPtrx0 asPtrx1 asPtrx2 asPtrx3 asPtr_ptr asPtrx3 asPtrx4 asPtrx3 asPtrx3 asPtrx5 asPtrx6 asPtrx3 asPtrx7 asPtrx3 asPtrx3 asPtrx8 asPtrx9 asPtrx9 asPtrx3 asPtrx10 asPtrx11 v
def asSlx0 (_ : Bool) (_ : Nat → Nat → Nat → VRes) (d : VRes) : VRes := d
def asSlx1 (_ : IntKind) (_ : Int) (_ : Nat → Nat → Nat → VRes) (d : VRes) : VRes := d
def asSlx2 (_ : List Nat) (_ : Nat → Nat → Nat → VRes) (d : VRes) : VRes := d
def asSlx3  (_ : Nat → Nat → Nat → VRes) (d : VRes) : VRes := d
def asSlx4 (_ _ : Nat) (_ : Nat → Nat → Nat → VRes) (d : VRes) : VRes := d
def asSl_sl (a b n : Nat) (_ : Option Nat) (c : Nat → Nat → Nat → VRes) (d : VRes) : VRes := c a b n
def asSlx5 (_ : Nat) (_ : Nat → Nat → Nat → VRes) (d : VRes) : VRes := d
def asSlx6 (_ : Fn) (_ _ : AV) (_ _ : ((Nat → Nat → Nat → VRes) → VRes → VRes)) (_ : Nat → Nat → Nat → VRes) (d : VRes) : VRes := d
def asSlx7 (_ : Nat) (_ : AV) (_ : ((Nat → Nat → Nat → VRes) → VRes → VRes)) (_ : Nat → Nat → Nat → VRes) (d : VRes) : VRes := d
def asSlx8 (_ _ : AV) (_ _ : ((Nat → Nat → Nat → VRes) → VRes → VRes)) (_ : Nat → Nat → Nat → VRes) (d : VRes) : VRes := d
def asSlx9 (_ : AV) (_ : ((Nat → Nat → Nat → VRes) → VRes → VRes)) (_ : Nat → Nat → Nat → VRes) (d : VRes) : VRes := d
def asSlx10 (_ _ : Option Int) (_ : Nat → Nat → Nat → VRes) (d : VRes) : VRes := d
def asSlx11 (_ : IntKind) (_ _ : Nat) (_ : Nat → Nat → Nat → VRes) (d : VRes) : VRes := d
def vSl (v : AV) : (Nat → Nat → Nat → VRes) → VRes → VRes := AV.rec (motive := fun _ => (Nat → Nat → Nat → VRes) → VRes → VRes) asSlx0 asSlx1 asSlx2 asSlx3 asSlx4 asSlx3 asSl_sl asSlx3 asSlx3 asSlx5 asSlx6 asSlx3 asSlx7 asSlx3 asSlx3 asSlx8 asSlx9 asSlx9 asSlx3 asSlx10 asSlx11 v
def asBool_bool (b : Bool) (c : Bool → VRes) (d : VRes) : VRes := c b
def asBoolx0 (_ : IntKind) (_ : Int) (_ : Bool → VRes) (d : VRes) : VRes := d
def asBoolx1 (_ : List Nat) (_ : Bool → VRes) (d : VRes) : VRes := d
def asBoolx2  (_ : Bool → VRes) (d : VRes) : VRes := d
def asBoolx3 (_ _ : Nat) (_ : Bool → VRes) (d : VRes) : VRes := d
def asBoolx4 (_ _ _ : Nat) (_ : Option Nat) (_ : Bool → VRes) (d : VRes) : VRes := d
def asBoolx5 (_ : Nat) (_ : Bool → VRes) (d : VRes) : VRes := d
def asBoolx6 (_ : Fn) (_ _ : AV) (_ _ : ((Bool → VRes) → VRes → VRes)) (_ : Bool → VRes) (d : VRes) : VRes := d
def asBoolx7 (_ : Nat) (_ : AV) (_ : ((Bool → VRes) → VRes → VRes)) (_ : Bool → VRes) (d : VRes) : VRes := d
def asBoolx8 (_ _ : AV) (_ _ : ((Bool → VRes) → VRes → VRes)) (_ : Bool → VRes) (d : VRes) : VRes := d
def asBoolx9 (_ : AV) (_ : ((Bool → VRes) → VRes → VRes)) (_ : Bool → VRes) (d : VRes) : VRes := d
def asBoolx10 (_ _ : Option Int) (_ : Bool → VRes) (d : VRes) : VRes := d
def asBoolx11 (_ : IntKind) (_ _ : Nat) (_ : Bool → VRes) (d : VRes) : VRes := d
def vBool (v : AV) : (Bool → VRes) → VRes → VRes := AV.rec (motive := fun _ => (Bool → VRes) → VRes → VRes) asBool_bool asBoolx0 asBoolx1 asBoolx2 asBoolx3 asBoolx2 asBoolx4 asBoolx2 asBoolx2 asBoolx5 asBoolx6 asBoolx2 asBoolx7 asBoolx2 asBoolx2 asBoolx8 asBoolx9 asBoolx9 asBoolx2 asBoolx10 asBoolx11 v
def asTupx0 (_ : Bool) (_ : AV → VRes) (d : VRes) : VRes := d
def asTupx1 (_ : IntKind) (_ : Int) (_ : AV → VRes) (d : VRes) : VRes := d
def asTupx2 (_ : List Nat) (_ : AV → VRes) (d : VRes) : VRes := d
def asTupx3  (_ : AV → VRes) (d : VRes) : VRes := d
def asTupx4 (_ _ : Nat) (_ : AV → VRes) (d : VRes) : VRes := d
def asTupx5 (_ _ _ : Nat) (_ : Option Nat) (_ : AV → VRes) (d : VRes) : VRes := d
def asTupx6 (_ : Nat) (_ : AV → VRes) (d : VRes) : VRes := d
def asTupx7 (_ : Fn) (_ _ : AV) (_ _ : ((AV → VRes) → VRes → VRes)) (_ : AV → VRes) (d : VRes) : VRes := d
def asTupx8 (_ : Nat) (_ : AV) (_ : ((AV → VRes) → VRes → VRes)) (_ : AV → VRes) (d : VRes) : VRes := d
def asTupx9 (_ _ : AV) (_ _ : ((AV → VRes) → VRes → VRes)) (_ : AV → VRes) (d : VRes) : VRes := d
def asTupx10 (_ : AV) (_ : ((AV → VRes) → VRes → VRes)) (_ : AV → VRes) (d : VRes) : VRes := d
def asTup_tup (l : AV) (_ : ((AV → VRes) → VRes → VRes)) (c : AV → VRes) (d : VRes) : VRes := c l
def asTupx11 (_ _ : Option Int) (_ : AV → VRes) (d : VRes) : VRes := d
def asTupx12 (_ : IntKind) (_ _ : Nat) (_ : AV → VRes) (d : VRes) : VRes := d
def vTup (v : AV) : (AV → VRes) → VRes → VRes := AV.rec (motive := fun _ => (AV → VRes) → VRes → VRes) asTupx0 asTupx1 asTupx2 asTupx3 asTupx4 asTupx3 asTupx5 asTupx3 asTupx3 asTupx6 asTupx7 asTupx3 asTupx8 asTupx3 asTupx3 asTupx9 asTupx10 asTup_tup asTupx3 asTupx11 asTupx12 v

/-! cells, by recursors over closed constants -/ -- KHELP
def pkE (c : T AV) (_ : Nat) : Option (T AV) := some c
def pkC (h _ : AV) (_ : T AV → Nat → Option (T AV)) (t : T AV → Nat → Option (T AV)) (c : T AV) (i : Nat) : Option (T AV) := Option.rec (motive := fun _ => Option (T AV)) none (fun c' => t c' (Nat.succ i)) (c.put i h)
def putK (c : T AV) (i : Nat) (l : AV) : Option (T AV) := AV.rec (motive := fun _ => T AV → Nat → Option (T AV)) (fun _ => pkE) (fun _ _ => pkE) (fun _ => pkE) pkE (fun _ _ => pkE) pkE (fun _ _ _ _ => pkE) pkE pkE (fun _ => pkE) (fun _ _ _ _ _ => pkE) pkE (fun _ _ _ => pkE) pkE pkE pkC (fun _ _ => pkE) (fun _ _ => pkE) pkE (fun _ _ => pkE) (fun _ _ _ => pkE) l c i
def rowK (l : AV) : Option (T AV) := putK .e 0 l
def oneK (v : AV) : Bool := AV.rec (motive := fun _ => Bool) (fun _ => true) (fun _ _ => true) (fun _ => true) true (fun _ _ => true) true (fun _ _ _ _ => true) true true (fun _ => true) (fun _ _ _ _ _ => true) true (fun _ _ _ => true) true false (fun _ _ _ _ => false) (fun _ _ => false) (fun _ _ => false) true (fun _ _ => true) (fun _ _ _ => true) v
def aoC (h _ : AV) (_ : Bool) (t : Bool) : Bool := Bool.rec (motive := fun _ => Bool) false t (oneK h)
def allOneK (l : AV) : Bool := AV.rec (motive := fun _ => Bool) (fun _ => true) (fun _ _ => true) (fun _ => true) true (fun _ _ => true) true (fun _ _ _ _ => true) true true (fun _ => true) (fun _ _ _ _ _ => true) true (fun _ _ _ => true) true true aoC (fun _ _ => true) (fun _ _ => true) true (fun _ _ => true) (fun _ _ _ => true) l
def gkE (_ : Nat) : Option AV := some .nil
def gkC (c : T AV) (ih : Nat → Option AV) (i : Nat) : Option AV := Option.rec (motive := fun _ => Option AV) none (fun v => Option.rec (motive := fun _ => Option AV) none (fun l => some (.cons v l)) (ih (Nat.succ i))) (c.get i)
def getK (c : T AV) (i n : Nat) : Option AV := Nat.rec (motive := fun _ => Nat → Option AV) gkE (fun _ ih => gkC c ih) n i
def cellsO {R : Type} (k : T AV → Nat → Nat → Nat → Option R) (o : AO) : Option R := AO.rec (motive := fun _ => Option R) k (fun _ _ => none) (fun _ _ _ _ => none) (fun _ _ => none) none o
def rdK (H : Hp) (id off n : Nat) : Option AV := Option.rec (motive := fun _ => Option AV) none (cellsO fun c _ _ _ => getK c off n) (H.get id)
def wkC (G : Nat) (H : Hp) (id off : Nat) (l : AV) (c : T AV) (n sz e : Nat) : Option Hp := Bool.rec (motive := fun _ => Option Hp) none (Option.rec (motive := fun _ => Option Hp) none (fun c' => H.put id (.cells c' n sz e)) (putK c off l)) (bz (Nat.ble G id) (bz (Nat.ble (Nat.add off l.len) n) (allOneK l) false) false)
def wrAtK (G : Nat) (H : Hp) (id off : Nat) (l : AV) : Option Hp := Option.rec (motive := fun _ => Option Hp) none (cellsO (wkC G H id off l)) (H.get id)
def initK (N : Nat) (args : AV) : Option (T AV) := Bool.rec (motive := fun _ => Option (T AV)) none (putK (T.rep undefA N N) 0 args) (bz (Nat.ble args.len N) (Nat.ble N 4096) false)
def fkC (x : Nat × Nat × CO) (tm : T AV) (k : AV → Option AV) (z : AV) : Option AV := Option.rec (motive := fun _ => Option AV) none (fun v => Bool.rec (motive := fun _ => Option AV) none (Option.rec (motive := fun _ => Option AV) none k (setL z x.1 v.cells)) (Nat.beq v.cells.len x.2.1)) ((mkG x.2.2).g tm)
def fillK (tm : T AV) (z : AV) (l : List (Nat × Nat × CO)) : Option AV := List.rec (motive := fun _ => T AV → AV → Option AV) (fun _ z => some z) (fun x _ ih tm z => fkC x tm (ih tm) z) l tm z
def srcK (H : Hp) (size : Nat) (x : AV) : Option (AV × Nat) :=
  match x with
  | .nilSl | .slE => some (.nil, 0)
  | .sl id off len _ => (match rdK H id off (Nat.mul len size) with | some l => some (l, len) | none => none)
  | .str l => bif Nat.beq size 1 then some (bytesA l, l.length) else none
  | _ => none
def appendK (G : Nat) (H : Hp) (nx size e : Nat) (s x : AV) : R :=
  match srcK H size x with
  | none => .no
  | some (new, m) => bif Nat.ble m 100000 then (
    match s with
    | .nilSl => bif Nat.beq m 0 then .v .nilSl H nx else (match rowK new with | some c => R.new (.sl nx 0 m none) H nx (.cells c (Nat.mul m size) size e) | none => .no)
    | .slE => bif Nat.beq m 0 then .v .slE H nx else .no
    | .sl id off len cap => bif Nat.ble len 100000 then
      (match H.get id with
      | some (.cells c n sz el) =>
        (match cap with
        | some k => bif Nat.ble (Nat.add len m) k then R.up (.sl id off (Nat.add len m) cap) nx (wrAtK G H id (Nat.add off (Nat.mul len size)) new)
            else (match getK c off (Nat.mul len size) with
              | some old => (match rowK (old.app new) with
                | some c => R.new (.sl nx 0 (Nat.add len m) none) H nx (.cells c (Nat.mul (Nat.add len m) size) size e)
                | none => .no)
              | none => .no)
        | none => bif Nat.beq sz size then (bif Nat.ble (Nat.add off (Nat.mul (Nat.add len m) size)) n then R.up (.sl id off (Nat.add len m) cap) nx (wrAtK G H id (Nat.add off (Nat.mul len size)) new)
            else bif Nat.ble G id && allOneK new && Nat.beq el e then (match H.put id .dead with
              | some H' => bif Nat.beq off 0 && Nat.beq (Nat.mul len size) n then (match putK c n new with
                  | some c => R.new (.sl nx 0 (Nat.add len m) none) H' nx (.cells c (Nat.mul (Nat.add len m) size) size e)
                  | none => .no)
                else (match getK c off (Nat.mul len size) with
                  | some old => (match rowK (old.app new) with
                    | some c => R.new (.sl nx 0 (Nat.add len m) none) H' nx (.cells c (Nat.mul (Nat.add len m) size) size e)
                    | none => .no)
                  | none => .no)
              | none => .no)
            else .no) else .no)
      | _ => .no) else .no
    | _ => .no) else .no
/-! every operation as a closure, kept in a structure -/
structure Pu where
  f : T AV → Option AV
structure Ru where
  f : T AV → Hp → Option AV
structure Nu where
  f : T AV → Nat → Option (AV × AO)
structure Hu where
  f : T AV → Hp → Nat → R
def lC (a b : Gt) (tm : T AV) : Option AV := Option.rec (motive := fun _ => Option AV) none (fun u => Option.rec (motive := fun _ => Option AV) none (fun v => some (.cons u v)) (b.g tm)) (a.g tm)
def mkL (l : List CO) : Gt := List.rec (motive := fun _ => Gt) ⟨fun _ => some .nil⟩ (fun x _ r => ⟨lC (mkG x) r⟩) l
def pu_mv (x : CO) (P : Program) : Pu := ⟨fun tm => (mkG x).g tm⟩
def pu_pick (c : CO) (a : CO) (b : CO) (P : Program) : Pu := ⟨fun tm => (match (mkG c).g tm with | some (.bool true) => (mkG a).g tm | some (.bool false) => (mkG b).g tm | _ => none)⟩
def pu_bin (op : BinOp) (x : CO) (y : CO) (P : Program) : Pu := ⟨fun tm => (match (mkG x).g tm with | some a => (match (mkG y).g tm with | some b => binA op a b | none => none) | none => none)⟩
def pu_eq (ng : Bool) (k : EqK) (x : CO) (y : CO) (P : Program) : Pu := ⟨fun tm => (match (mkG x).g tm with | some a => (match (mkG y).g tm with | some b => (match eqKA k a b with | some r => some (.bool (bif ng then !r else r)) | none => none) | none => none) | none => none)⟩
def pu_not (x : CO) (P : Program) : Pu := ⟨fun tm => (match (mkG x).g tm with | some (.bool b) => some (.bool (!b)) | _ => none)⟩
def pu_neg (x : CO) (P : Program) : Pu := ⟨fun tm => (match (mkG x).g tm with | some (.int k n) => some (.int k (wrapF k (ineg n))) | _ => none)⟩
def pu_toInt (k : IntKind) (x : CO) (P : Program) : Pu := ⟨fun tm => (match (mkG x).g tm with | some (.int _ n) => some (.int k (wrapF k n)) | some (.rs _ m r) => (match k with | .i64 => toI64 m r | _ => none) | _ => none)⟩
def pu_nilchk (x : CO) (P : Program) : Pu := ⟨fun tm => (match (mkG x).g tm with | some (.ptr i o) => some (.ptr i o) | some (.fn (.func f) a c) => some (.fn (.func f) a c) | some (.iface t v) => some (.iface t v) | _ => none)⟩
def pu_iface (t : Nat) (x : CO) (P : Program) : Pu := ⟨fun tm => (match (mkG x).g tm with | some v => some (.iface t v) | none => none)⟩
def pu_func (f : Fn) (a : List CO) (c : List CO) (P : Program) : Pu := ⟨fun tm => (match (mkL a).g tm, (mkL c).g tm with | some a, some c => some (.fn f a c) | _, _ => none)⟩
def pu_faddr (off : Nat) (x : CO) (P : Program) : Pu := ⟨fun tm => (match (mkG x).g tm with | some (.ptr id o) => some (.ptr id (Nat.add o off)) | _ => none)⟩
def pu_field (off : Nat) (x : CO) (P : Program) : Pu := ⟨fun tm => (match (mkG x).g tm with | some (.agg l) => l.nth off | _ => none)⟩
def pu_fields (off : Nat) (n : Nat) (x : CO) (P : Program) : Pu := ⟨fun tm => (match (mkG x).g tm with | some (.agg l) => (match l.part off n with | some l => some (.agg l) | none => none) | _ => none)⟩
def pu_idxA (n : Nat) (s : Nat) (x : CO) (i : CO) (P : Program) : Pu := ⟨fun tm => (match (mkG x).g tm, natOf ((mkG i).g tm) with | some (.ptr id o), some i => bif Nat.blt i n then some (.ptr id (Nat.add o (Nat.mul i s))) else none | _, _ => none)⟩
def pu_idxS (s : Nat) (x : CO) (i : CO) (P : Program) : Pu := ⟨fun tm => (match (mkG x).g tm, natOf ((mkG i).g tm) with | some (.sl id o len _), some i => bif Nat.blt i len then some (.ptr id (Nat.add o (Nat.mul i s))) else none | _, _ => none)⟩
def pu_idxStr (x : CO) (i : CO) (P : Program) : Pu := ⟨fun tm => (match (mkG x).g tm, natOf ((mkG i).g tm) with | some (.str l), some i => (match l[i]? with | some c => some (.int .u8 (.ofNat c)) | none => none) | _, _ => none)⟩
def pu_idxV (n : Nat) (s : Nat) (x : CO) (i : CO) (P : Program) : Pu := ⟨fun tm => (match (mkG x).g tm, natOf ((mkG i).g tm) with | some (.agg l), some i => bif Nat.blt i n then l.nth (Nat.mul i s) else none | _, _ => none)⟩
def pu_idxVs (n : Nat) (s : Nat) (x : CO) (i : CO) (P : Program) : Pu := ⟨fun tm => (match (mkG x).g tm, natOf ((mkG i).g tm) with | some (.agg l), some i => bif Nat.blt i n then (match l.part (Nat.mul i s) s with | some l => some (.agg l) | none => none) else none | _, _ => none)⟩
def pu_build (z : AV) (ps : List (Nat × Nat × CO)) (P : Program) : Pu := ⟨fun tm => (match fillK tm z ps with | some l => some (.agg l) | none => none)⟩
def pu_slStr (x : CO) (lo : Option CO) (hi : Option CO) (P : Program) : Pu := ⟨fun tm => (match (mkG x).g tm with
    | some (.str l) => (match lim tm lo 0, lim tm hi l.length with
      | some a, some b => bif Nat.ble a b && Nat.ble b l.length then some (.str ((l.take b).drop a)) else none
      | _, _ => none)
    | _ => none)⟩
def pu_slArr (n : Nat) (s : Nat) (x : CO) (lo : Option CO) (hi : Option CO) (mx : Option CO) (P : Program) : Pu := ⟨fun tm => (match (mkG x).g tm with
    | some (.ptr id off) => (match lim tm lo 0, lim tm hi n, lim tm mx n with
      | some a, some b, some m => bif Nat.ble a b && Nat.ble b m && Nat.ble m n then some (.sl id (bif Nat.beq m a then off else Nat.add off (Nat.mul a s)) (Nat.sub b a) (some (Nat.sub m a))) else none
      | _, _, _ => none)
    | _ => none)⟩
def pu_extract (i : Nat) (x : CO) (P : Program) : Pu := ⟨fun tm => (match (mkG x).g tm with | some (.tup l) => l.nth i | _ => none)⟩
def pu_asC (t : Nat) (z : Option AV) (x : CO) (P : Program) : Pu := ⟨fun tm => (match (mkG x).g tm with
    | some (.iface u v) => bif Nat.beq u t then (match z with | some _ => some (pairA v (.bool true)) | none => some v)
       else (match z with | some z => some (pairA z (.bool false)) | none => none)
    | some .nilIface => (match z with | some z => some (pairA z (.bool false)) | none => none)
    | _ => none)⟩
def pu_asI (want : List (String × Nat)) (z : Option AV) (x : CO) (P : Program) : Pu := ⟨fun tm => (match (mkG x).g tm with
    | some (.iface u v) => (match missing P want u with
      | some false => (match z with | some _ => some (pairA (.iface u v) (.bool true)) | none => some (.iface u v))
      | some true => (match z with | some z => some (pairA z (.bool false)) | none => none)
      | none => none)
    | some .nilIface => (match z with | some z => some (pairA z (.bool false)) | none => none)
    | _ => none)⟩
def pu_load (_ : CO) (P : Program) : Pu := ⟨fun tm => none⟩
def pu_loads (_ : Nat) (_ : CO) (P : Program) : Pu := ⟨fun tm => none⟩
def pu_slice (_ : Nat) (_ : CO) (_ : Option CO) (_ : Option CO) (_ : Option CO) (P : Program) : Pu := ⟨fun tm => none⟩
def pu_len (_ : EqS) (_ : CO) (P : Program) : Pu := ⟨fun tm => none⟩
def pu_lenC (_ : Nat) (_ : CO) (P : Program) : Pu := ⟨fun tm => none⟩
def pu_cap (_ : CO) (P : Program) : Pu := ⟨fun tm => none⟩
def pu_lookup (_ : EqS) (_ : AV) (_ : Bool) (_ : CO) (_ : CO) (P : Program) : Pu := ⟨fun tm => none⟩
def pu_toStr (_ : CO) (P : Program) : Pu := ⟨fun tm => none⟩
def pu_bytesStr (_ : CO) (P : Program) : Pu := ⟨fun tm => none⟩
def pu_toUp (_ : CO) (P : Program) : Pu := ⟨fun tm => none⟩
def pu_fromUp (_ : Nat) (_ : Nat) (_ : CO) (P : Program) : Pu := ⟨fun tm => none⟩
def pu_sdata (_ : CO) (P : Program) : Pu := ⟨fun tm => none⟩
def pu_alloc (_ : AV) (_ : Nat) (P : Program) : Pu := ⟨fun tm => none⟩
def pu_box (_ : Nat) (_ : CO) (P : Program) : Pu := ⟨fun tm => none⟩
def pu_bslice (_ : AV) (_ : Nat) (_ : Nat) (_ : Nat) (_ : List (Nat × Nat × CO)) (P : Program) : Pu := ⟨fun tm => none⟩
def pu_mkmap  (P : Program) : Pu := ⟨fun tm => none⟩
def pu_mkslice (_ : AV) (_ : Nat) (_ : Nat) (_ : CO) (_ : CO) (P : Program) : Pu := ⟨fun tm => none⟩
def pu_toBytes (_ : Nat) (_ : CO) (P : Program) : Pu := ⟨fun tm => none⟩
def pu_store (_ : Nat) (_ : CO) (_ : CO) (P : Program) : Pu := ⟨fun tm => none⟩
def pu_mapupd (_ : EqS) (_ : CO) (_ : CO) (_ : CO) (P : Program) : Pu := ⟨fun tm => none⟩
def pu_range (_ : Bool) (_ : CO) (P : Program) : Pu := ⟨fun tm => none⟩
def pu_next (_ : Bool) (_ : CO) (P : Program) : Pu := ⟨fun tm => none⟩
def pu_append (_ : Nat) (_ : Nat) (_ : CO) (_ : CO) (P : Program) : Pu := ⟨fun tm => none⟩
def pu_copy (_ : Nat) (_ : CO) (_ : CO) (P : Program) : Pu := ⟨fun tm => none⟩
def pu_delete (_ : EqS) (_ : CO) (_ : CO) (P : Program) : Pu := ⟨fun tm => none⟩
def pu_minmax (_ : Bool) (_ : List CO) (P : Program) : Pu := ⟨fun tm => none⟩
def pu_ustr (_ : Nat) (_ : CO) (_ : CO) (P : Program) : Pu := ⟨fun tm => none⟩
def pu_call (_ : Cal) (_ : List CO) (P : Program) : Pu := ⟨fun tm => none⟩
def pu_defer (_ : CO) (_ : List CO) (P : Program) : Pu := ⟨fun tm => none⟩
def ru_mv (_ : CO) (P : Program) : Ru := ⟨fun tm H => none⟩
def ru_pick (_ : CO) (_ : CO) (_ : CO) (P : Program) : Ru := ⟨fun tm H => none⟩
def ru_bin (_ : BinOp) (_ : CO) (_ : CO) (P : Program) : Ru := ⟨fun tm H => none⟩
def ru_eq (_ : Bool) (_ : EqK) (_ : CO) (_ : CO) (P : Program) : Ru := ⟨fun tm H => none⟩
def ru_not (_ : CO) (P : Program) : Ru := ⟨fun tm H => none⟩
def ru_neg (_ : CO) (P : Program) : Ru := ⟨fun tm H => none⟩
def ru_toInt (_ : IntKind) (_ : CO) (P : Program) : Ru := ⟨fun tm H => none⟩
def ru_nilchk (_ : CO) (P : Program) : Ru := ⟨fun tm H => none⟩
def ru_iface (_ : Nat) (_ : CO) (P : Program) : Ru := ⟨fun tm H => none⟩
def ru_func (_ : Fn) (_ : List CO) (_ : List CO) (P : Program) : Ru := ⟨fun tm H => none⟩
def ru_faddr (_ : Nat) (_ : CO) (P : Program) : Ru := ⟨fun tm H => none⟩
def ru_field (_ : Nat) (_ : CO) (P : Program) : Ru := ⟨fun tm H => none⟩
def ru_fields (_ : Nat) (_ : Nat) (_ : CO) (P : Program) : Ru := ⟨fun tm H => none⟩
def ru_idxA (_ : Nat) (_ : Nat) (_ : CO) (_ : CO) (P : Program) : Ru := ⟨fun tm H => none⟩
def ru_idxS (_ : Nat) (_ : CO) (_ : CO) (P : Program) : Ru := ⟨fun tm H => none⟩
def ru_idxStr (_ : CO) (_ : CO) (P : Program) : Ru := ⟨fun tm H => none⟩
def ru_idxV (_ : Nat) (_ : Nat) (_ : CO) (_ : CO) (P : Program) : Ru := ⟨fun tm H => none⟩
def ru_idxVs (_ : Nat) (_ : Nat) (_ : CO) (_ : CO) (P : Program) : Ru := ⟨fun tm H => none⟩
def ru_build (_ : AV) (_ : List (Nat × Nat × CO)) (P : Program) : Ru := ⟨fun tm H => none⟩
def ru_slStr (_ : CO) (_ : Option CO) (_ : Option CO) (P : Program) : Ru := ⟨fun tm H => none⟩
def ru_slArr (_ : Nat) (_ : Nat) (_ : CO) (_ : Option CO) (_ : Option CO) (_ : Option CO) (P : Program) : Ru := ⟨fun tm H => none⟩
def ru_extract (_ : Nat) (_ : CO) (P : Program) : Ru := ⟨fun tm H => none⟩
def ru_asC (_ : Nat) (_ : Option AV) (_ : CO) (P : Program) : Ru := ⟨fun tm H => none⟩
def ru_asI (_ : List (String × Nat)) (_ : Option AV) (_ : CO) (P : Program) : Ru := ⟨fun tm H => none⟩
def ru_load (x : CO) (P : Program) : Ru := ⟨fun tm H => (match (mkG x).g tm with | some (.ptr id off) => (match H.get id with | some (.cells c _ _ _) => c.get off | _ => none) | _ => none)⟩
def ru_loads (n : Nat) (x : CO) (P : Program) : Ru := ⟨fun tm H => (match (mkG x).g tm with | some (.ptr id off) => (match rdK H id off n with | some l => some (.agg l) | none => none) | _ => none)⟩
def ru_slice (s : Nat) (x : CO) (lo : Option CO) (hi : Option CO) (mx : Option CO) (P : Program) : Ru := ⟨fun tm H => (match (mkG x).g tm with
    | some .nilSl => (match lim tm lo 0, lim tm hi 0, lim tm mx 0 with | some 0, some 0, some 0 => some .nilSl | _, _, _ => none)
    | some .slE => (match lim tm lo 0, lim tm hi 0, mx with | some 0, some 0, none => some .slE | _, _, _ => none)
    | some (.sl id off len (some k)) => (match lim tm lo 0, lim tm hi len, lim tm mx k with
      | some a, some b, some m => bif Nat.ble a b && Nat.ble b m && Nat.ble m k then some (.sl id (bif Nat.beq m a then off else Nat.add off (Nat.mul a s)) (Nat.sub b a) (some (Nat.sub m a))) else none
      | _, _, _ => none)
    | some (.sl id off len none) => (match H.get id, lim tm lo 0, lim tm hi len with
      | some (.cells _ n sz _), some a, some b => bif Nat.beq sz s && Nat.ble a b && Nat.blt 0 sz then (match mx with
          | none => bif Nat.ble (Nat.add off (Nat.mul b s)) n then
              bif Nat.beq a 0 then some (.sl id off b none)
              else bif Nat.beq (Nat.add off (Nat.mul a s)) n then some .slE else some (.sl id (Nat.add off (Nat.mul a s)) (Nat.sub b a) none)
            else none
          | some m => (match natOf ((mkG m).g tm) with
            | some m => bif Nat.ble b m && Nat.ble (Nat.add off (Nat.mul m s)) n then some (.sl id (bif Nat.beq m a then off else Nat.add off (Nat.mul a s)) (Nat.sub b a) (some (Nat.sub m a))) else none
            | none => none)) else none
      | _, _, _ => none)
    | _ => none)⟩
def ru_len (k : EqS) (x : CO) (P : Program) : Ru := ⟨fun tm H => (match k, (mkG x).g tm with
    | .str, some (.str l) => some (.int .i64 (.ofNat l.length))
    | .slice, some .nilSl | .slice, some .slE => some (.int .i64 (.ofNat 0))
    | .slice, some (.sl _ _ n _) => some (.int .i64 (.ofNat n))
    | .map, some .nilMap => some (.int .i64 (.ofNat 0))
    | .map, some (.map id) => (match H.get id with | some (.map es _) => some (.int .i64 (.ofNat es.length)) | _ => none)
    | _, _ => none)⟩
def ru_lenC (n : Nat) (_ : CO) (P : Program) : Ru := ⟨fun tm H => some (.int .i64 (.ofNat n))⟩
def ru_cap (x : CO) (P : Program) : Ru := ⟨fun tm H => (match (mkG x).g tm with
    | some .nilSl => some (.int .i64 (.ofNat 0))
    | some (.sl _ _ _ (some n)) => some (.int .i64 (.ofNat n))
    | some (.sl id off _ none) => (match H.get id with | some (.cells _ n sz _) => bif Nat.blt off n && Nat.blt 0 sz then some (.rng (some 1) none) else none | _ => none)
    | _ => none)⟩
def ru_lookup (q : EqS) (z : AV) (ok : Bool) (m : CO) (k : CO) (P : Program) : Ru := ⟨fun tm H => (match (mkG m).g tm, (mkG k).g tm with
    | some m, some k => (match (match m with
        | .nilMap => some none
        | .map id => (match H.get id with | some (.map es _) => findE q k es | _ => none)
        | _ => none) with
      | some (some v) => some (bif ok then pairA v (.bool true) else v)
      | some none => some (bif ok then pairA z (.bool false) else z)
      | none => none)
    | _, _ => none)⟩
def ru_toStr (x : CO) (P : Program) : Ru := ⟨fun tm H => (match (mkG x).g tm with
    | some (.str l) => some (.str l)
    | some (.int _ (.ofNat n)) => bif Nat.blt n 128 then some (.str [n]) else none
    | _ => none)⟩
def ru_bytesStr (x : CO) (P : Program) : Ru := ⟨fun tm H => (match (mkG x).g tm with
    | some .nilSl => some (.str [])
    | some (.sl id off len _) => (match rdK H id off len with | some l => (match natsA l with | some l => some (.str l) | none => none) | none => none)
    | _ => none)⟩
def ru_toUp (x : CO) (P : Program) : Ru := ⟨fun tm H => (match (mkG x).g tm with
    | some .nilPtr => some .nilPtr
    | some (.ptr id off) => (match H.get id with | some (.cells _ n 0 _) => bif Nat.blt off n then some (.ptr id off) else none | _ => none)
    | _ => none)⟩
def ru_fromUp (u : Nat) (s : Nat) (x : CO) (P : Program) : Ru := ⟨fun tm H => (match (mkG x).g tm with
    | some .nilPtr => some .nilPtr
    | some (.ptr id 0) => (match H.get id with | some (.cells _ n 0 e) => bif Nat.beq e u && Nat.ble s n then some (.ptr id 0) else none | _ => none)
    | _ => none)⟩
def ru_sdata (x : CO) (P : Program) : Ru := ⟨fun tm H => (match (mkG x).g tm with
    | some .nilSl => some .nilPtr
    | some (.sl id off _ none) => (match H.get id with | some (.cells _ n sz _) => bif Nat.blt off n && Nat.blt 0 sz then some (.ptr id off) else none | _ => none)
    | some (.sl id off _ (some (_ + 1))) => some (.ptr id off)
    | _ => none)⟩
def ru_alloc (_ : AV) (_ : Nat) (P : Program) : Ru := ⟨fun tm H => none⟩
def ru_box (_ : Nat) (_ : CO) (P : Program) : Ru := ⟨fun tm H => none⟩
def ru_bslice (_ : AV) (_ : Nat) (_ : Nat) (_ : Nat) (_ : List (Nat × Nat × CO)) (P : Program) : Ru := ⟨fun tm H => none⟩
def ru_mkmap  (P : Program) : Ru := ⟨fun tm H => none⟩
def ru_mkslice (_ : AV) (_ : Nat) (_ : Nat) (_ : CO) (_ : CO) (P : Program) : Ru := ⟨fun tm H => none⟩
def ru_toBytes (_ : Nat) (_ : CO) (P : Program) : Ru := ⟨fun tm H => none⟩
def ru_store (_ : Nat) (_ : CO) (_ : CO) (P : Program) : Ru := ⟨fun tm H => none⟩
def ru_mapupd (_ : EqS) (_ : CO) (_ : CO) (_ : CO) (P : Program) : Ru := ⟨fun tm H => none⟩
def ru_range (_ : Bool) (_ : CO) (P : Program) : Ru := ⟨fun tm H => none⟩
def ru_next (_ : Bool) (_ : CO) (P : Program) : Ru := ⟨fun tm H => none⟩
def ru_append (_ : Nat) (_ : Nat) (_ : CO) (_ : CO) (P : Program) : Ru := ⟨fun tm H => none⟩
def ru_copy (_ : Nat) (_ : CO) (_ : CO) (P : Program) : Ru := ⟨fun tm H => none⟩
def ru_delete (_ : EqS) (_ : CO) (_ : CO) (P : Program) : Ru := ⟨fun tm H => none⟩
def ru_minmax (_ : Bool) (_ : List CO) (P : Program) : Ru := ⟨fun tm H => none⟩
def ru_ustr (_ : Nat) (_ : CO) (_ : CO) (P : Program) : Ru := ⟨fun tm H => none⟩
def ru_call (_ : Cal) (_ : List CO) (P : Program) : Ru := ⟨fun tm H => none⟩
def ru_defer (_ : CO) (_ : List CO) (P : Program) : Ru := ⟨fun tm H => none⟩
def nu_mv (_ : CO)  : Nu := ⟨fun tm nx => none⟩
def nu_pick (_ : CO) (_ : CO) (_ : CO)  : Nu := ⟨fun tm nx => none⟩
def nu_bin (_ : BinOp) (_ : CO) (_ : CO)  : Nu := ⟨fun tm nx => none⟩
def nu_eq (_ : Bool) (_ : EqK) (_ : CO) (_ : CO)  : Nu := ⟨fun tm nx => none⟩
def nu_not (_ : CO)  : Nu := ⟨fun tm nx => none⟩
def nu_neg (_ : CO)  : Nu := ⟨fun tm nx => none⟩
def nu_toInt (_ : IntKind) (_ : CO)  : Nu := ⟨fun tm nx => none⟩
def nu_nilchk (_ : CO)  : Nu := ⟨fun tm nx => none⟩
def nu_iface (_ : Nat) (_ : CO)  : Nu := ⟨fun tm nx => none⟩
def nu_func (_ : Fn) (_ : List CO) (_ : List CO)  : Nu := ⟨fun tm nx => none⟩
def nu_faddr (_ : Nat) (_ : CO)  : Nu := ⟨fun tm nx => none⟩
def nu_field (_ : Nat) (_ : CO)  : Nu := ⟨fun tm nx => none⟩
def nu_fields (_ : Nat) (_ : Nat) (_ : CO)  : Nu := ⟨fun tm nx => none⟩
def nu_idxA (_ : Nat) (_ : Nat) (_ : CO) (_ : CO)  : Nu := ⟨fun tm nx => none⟩
def nu_idxS (_ : Nat) (_ : CO) (_ : CO)  : Nu := ⟨fun tm nx => none⟩
def nu_idxStr (_ : CO) (_ : CO)  : Nu := ⟨fun tm nx => none⟩
def nu_idxV (_ : Nat) (_ : Nat) (_ : CO) (_ : CO)  : Nu := ⟨fun tm nx => none⟩
def nu_idxVs (_ : Nat) (_ : Nat) (_ : CO) (_ : CO)  : Nu := ⟨fun tm nx => none⟩
def nu_build (_ : AV) (_ : List (Nat × Nat × CO))  : Nu := ⟨fun tm nx => none⟩
def nu_slStr (_ : CO) (_ : Option CO) (_ : Option CO)  : Nu := ⟨fun tm nx => none⟩
def nu_slArr (_ : Nat) (_ : Nat) (_ : CO) (_ : Option CO) (_ : Option CO) (_ : Option CO)  : Nu := ⟨fun tm nx => none⟩
def nu_extract (_ : Nat) (_ : CO)  : Nu := ⟨fun tm nx => none⟩
def nu_asC (_ : Nat) (_ : Option AV) (_ : CO)  : Nu := ⟨fun tm nx => none⟩
def nu_asI (_ : List (String × Nat)) (_ : Option AV) (_ : CO)  : Nu := ⟨fun tm nx => none⟩
def nu_load (_ : CO)  : Nu := ⟨fun tm nx => none⟩
def nu_loads (_ : Nat) (_ : CO)  : Nu := ⟨fun tm nx => none⟩
def nu_slice (_ : Nat) (_ : CO) (_ : Option CO) (_ : Option CO) (_ : Option CO)  : Nu := ⟨fun tm nx => none⟩
def nu_len (_ : EqS) (_ : CO)  : Nu := ⟨fun tm nx => none⟩
def nu_lenC (_ : Nat) (_ : CO)  : Nu := ⟨fun tm nx => none⟩
def nu_cap (_ : CO)  : Nu := ⟨fun tm nx => none⟩
def nu_lookup (_ : EqS) (_ : AV) (_ : Bool) (_ : CO) (_ : CO)  : Nu := ⟨fun tm nx => none⟩
def nu_toStr (_ : CO)  : Nu := ⟨fun tm nx => none⟩
def nu_bytesStr (_ : CO)  : Nu := ⟨fun tm nx => none⟩
def nu_toUp (_ : CO)  : Nu := ⟨fun tm nx => none⟩
def nu_fromUp (_ : Nat) (_ : Nat) (_ : CO)  : Nu := ⟨fun tm nx => none⟩
def nu_sdata (_ : CO)  : Nu := ⟨fun tm nx => none⟩
def nu_alloc (z : AV) (e : Nat)  : Nu := ⟨fun tm nx => (match rowK z with | some c => some (.ptr nx 0, .cells c z.len 0 e) | none => none)⟩
def nu_box (e : Nat) (x : CO)  : Nu := ⟨fun tm nx => (match (mkG x).g tm with | some v => (match v.cells with | z => (match rowK z with | some c => some (.ptr nx 0, .cells c z.len 0 e) | none => none)) | none => none)⟩
def nu_bslice (z : AV) (len : Nat) (_ : Nat) (e : Nat) (ps : List (Nat × Nat × CO))  : Nu := ⟨fun tm nx => (match fillK tm z ps with | some l => (match rowK l with | some c => some (.sl nx 0 len (some len), .cells c l.len 0 e) | none => none) | none => none)⟩
def nu_mkmap   : Nu := ⟨fun tm nx => some (.map nx, .map [] 0)⟩
def nu_mkslice (z : AV) (s : Nat) (e : Nat) (l : CO) (c : CO)  : Nu := ⟨fun tm nx => (match natOf ((mkG l).g tm), natOf ((mkG c).g tm) with
    | some l, some c => bif Nat.ble l c && Nat.ble c 100000 then (match z with
       | .cons z1 .nil => some (.sl nx 0 l (some c), .cells (T.rep z1 c c) c 0 e)
       | z => (match rowK (z.rep c) with | some t => some (.sl nx 0 l (some c), .cells t (Nat.mul c s) 0 e) | none => none)) else none
    | _, _ => none)⟩
def nu_toBytes (e : Nat) (x : CO)  : Nu := ⟨fun tm nx => (match (mkG x).g tm with | some (.str l) => (match rowK (bytesA l) with | some c => some (.sl nx 0 l.length none, .cells c l.length 1 e) | none => none) | _ => none)⟩
def nu_store (_ : Nat) (_ : CO) (_ : CO)  : Nu := ⟨fun tm nx => none⟩
def nu_mapupd (_ : EqS) (_ : CO) (_ : CO) (_ : CO)  : Nu := ⟨fun tm nx => none⟩
def nu_range (_ : Bool) (_ : CO)  : Nu := ⟨fun tm nx => none⟩
def nu_next (_ : Bool) (_ : CO)  : Nu := ⟨fun tm nx => none⟩
def nu_append (_ : Nat) (_ : Nat) (_ : CO) (_ : CO)  : Nu := ⟨fun tm nx => none⟩
def nu_copy (_ : Nat) (_ : CO) (_ : CO)  : Nu := ⟨fun tm nx => none⟩
def nu_delete (_ : EqS) (_ : CO) (_ : CO)  : Nu := ⟨fun tm nx => none⟩
def nu_minmax (_ : Bool) (_ : List CO)  : Nu := ⟨fun tm nx => none⟩
def nu_ustr (_ : Nat) (_ : CO) (_ : CO)  : Nu := ⟨fun tm nx => none⟩
def nu_call (_ : Cal) (_ : List CO)  : Nu := ⟨fun tm nx => none⟩
def nu_defer (_ : CO) (_ : List CO)  : Nu := ⟨fun tm nx => none⟩
def hu_mv (_ : CO) (P : Program) (G : Nat) : Hu := ⟨fun tm H nx => .no⟩
def hu_pick (_ : CO) (_ : CO) (_ : CO) (P : Program) (G : Nat) : Hu := ⟨fun tm H nx => .no⟩
def hu_bin (_ : BinOp) (_ : CO) (_ : CO) (P : Program) (G : Nat) : Hu := ⟨fun tm H nx => .no⟩
def hu_eq (_ : Bool) (_ : EqK) (_ : CO) (_ : CO) (P : Program) (G : Nat) : Hu := ⟨fun tm H nx => .no⟩
def hu_not (_ : CO) (P : Program) (G : Nat) : Hu := ⟨fun tm H nx => .no⟩
def hu_neg (_ : CO) (P : Program) (G : Nat) : Hu := ⟨fun tm H nx => .no⟩
def hu_toInt (_ : IntKind) (_ : CO) (P : Program) (G : Nat) : Hu := ⟨fun tm H nx => .no⟩
def hu_nilchk (_ : CO) (P : Program) (G : Nat) : Hu := ⟨fun tm H nx => .no⟩
def hu_iface (_ : Nat) (_ : CO) (P : Program) (G : Nat) : Hu := ⟨fun tm H nx => .no⟩
def hu_func (_ : Fn) (_ : List CO) (_ : List CO) (P : Program) (G : Nat) : Hu := ⟨fun tm H nx => .no⟩
def hu_faddr (_ : Nat) (_ : CO) (P : Program) (G : Nat) : Hu := ⟨fun tm H nx => .no⟩
def hu_field (_ : Nat) (_ : CO) (P : Program) (G : Nat) : Hu := ⟨fun tm H nx => .no⟩
def hu_fields (_ : Nat) (_ : Nat) (_ : CO) (P : Program) (G : Nat) : Hu := ⟨fun tm H nx => .no⟩
def hu_idxA (_ : Nat) (_ : Nat) (_ : CO) (_ : CO) (P : Program) (G : Nat) : Hu := ⟨fun tm H nx => .no⟩
def hu_idxS (_ : Nat) (_ : CO) (_ : CO) (P : Program) (G : Nat) : Hu := ⟨fun tm H nx => .no⟩
def hu_idxStr (_ : CO) (_ : CO) (P : Program) (G : Nat) : Hu := ⟨fun tm H nx => .no⟩
def hu_idxV (_ : Nat) (_ : Nat) (_ : CO) (_ : CO) (P : Program) (G : Nat) : Hu := ⟨fun tm H nx => .no⟩
def hu_idxVs (_ : Nat) (_ : Nat) (_ : CO) (_ : CO) (P : Program) (G : Nat) : Hu := ⟨fun tm H nx => .no⟩
def hu_build (_ : AV) (_ : List (Nat × Nat × CO)) (P : Program) (G : Nat) : Hu := ⟨fun tm H nx => .no⟩
def hu_slStr (_ : CO) (_ : Option CO) (_ : Option CO) (P : Program) (G : Nat) : Hu := ⟨fun tm H nx => .no⟩
def hu_slArr (_ : Nat) (_ : Nat) (_ : CO) (_ : Option CO) (_ : Option CO) (_ : Option CO) (P : Program) (G : Nat) : Hu := ⟨fun tm H nx => .no⟩
def hu_extract (_ : Nat) (_ : CO) (P : Program) (G : Nat) : Hu := ⟨fun tm H nx => .no⟩
def hu_asC (_ : Nat) (_ : Option AV) (_ : CO) (P : Program) (G : Nat) : Hu := ⟨fun tm H nx => .no⟩
def hu_asI (_ : List (String × Nat)) (_ : Option AV) (_ : CO) (P : Program) (G : Nat) : Hu := ⟨fun tm H nx => .no⟩
def hu_load (_ : CO) (P : Program) (G : Nat) : Hu := ⟨fun tm H nx => .no⟩
def hu_loads (_ : Nat) (_ : CO) (P : Program) (G : Nat) : Hu := ⟨fun tm H nx => .no⟩
def hu_slice (_ : Nat) (_ : CO) (_ : Option CO) (_ : Option CO) (_ : Option CO) (P : Program) (G : Nat) : Hu := ⟨fun tm H nx => .no⟩
def hu_len (_ : EqS) (_ : CO) (P : Program) (G : Nat) : Hu := ⟨fun tm H nx => .no⟩
def hu_lenC (_ : Nat) (_ : CO) (P : Program) (G : Nat) : Hu := ⟨fun tm H nx => .no⟩
def hu_cap (_ : CO) (P : Program) (G : Nat) : Hu := ⟨fun tm H nx => .no⟩
def hu_lookup (_ : EqS) (_ : AV) (_ : Bool) (_ : CO) (_ : CO) (P : Program) (G : Nat) : Hu := ⟨fun tm H nx => .no⟩
def hu_toStr (_ : CO) (P : Program) (G : Nat) : Hu := ⟨fun tm H nx => .no⟩
def hu_bytesStr (_ : CO) (P : Program) (G : Nat) : Hu := ⟨fun tm H nx => .no⟩
def hu_toUp (_ : CO) (P : Program) (G : Nat) : Hu := ⟨fun tm H nx => .no⟩
def hu_fromUp (_ : Nat) (_ : Nat) (_ : CO) (P : Program) (G : Nat) : Hu := ⟨fun tm H nx => .no⟩
def hu_sdata (_ : CO) (P : Program) (G : Nat) : Hu := ⟨fun tm H nx => .no⟩
def hu_alloc (_ : AV) (_ : Nat) (P : Program) (G : Nat) : Hu := ⟨fun tm H nx => .no⟩
def hu_box (_ : Nat) (_ : CO) (P : Program) (G : Nat) : Hu := ⟨fun tm H nx => .no⟩
def hu_bslice (_ : AV) (_ : Nat) (_ : Nat) (_ : Nat) (_ : List (Nat × Nat × CO)) (P : Program) (G : Nat) : Hu := ⟨fun tm H nx => .no⟩
def hu_mkmap  (P : Program) (G : Nat) : Hu := ⟨fun tm H nx => .no⟩
def hu_mkslice (_ : AV) (_ : Nat) (_ : Nat) (_ : CO) (_ : CO) (P : Program) (G : Nat) : Hu := ⟨fun tm H nx => .no⟩
def hu_toBytes (_ : Nat) (_ : CO) (P : Program) (G : Nat) : Hu := ⟨fun tm H nx => .no⟩
def hu_store (n : Nat) (a : CO) (x : CO) (P : Program) (G : Nat) : Hu := ⟨fun tm H nx => (match (mkG a).g tm, (mkG x).g tm with
    | some (.ptr id off), some v => (match v.cells with | vc => bif Nat.beq vc.len n then R.up undefA nx (wrAtK G H id off vc) else .no)
    | _, _ => .no)⟩
def hu_mapupd (q : EqS) (m : CO) (k : CO) (v : CO) (P : Program) (G : Nat) : Hu := ⟨fun tm H nx => (match (mkG m).g tm, (mkG k).g tm, (mkG v).g tm with
    | some (.map id), some k, some v => (match H.get id with
      | some (.map es c) => bif Nat.ble G id then (match findE q k es with
        | some (some _) => (match updE q k v es with | some es' => R.up undefA nx (H.put id (.map es' c)) | none => .no)
        | some none => R.up undefA nx (H.put id (.map (es ++ [⟨k, v, c⟩]) (Nat.succ c)))
        | none => .no) else .no
      | _ => .no)
    | _, _, _ => .no)⟩
def hu_range (str : Bool) (x : CO) (P : Program) (G : Nat) : Hu := ⟨fun tm H nx => (match str with 
  | true => (match (mkG x).g tm with | some (.str l) => R.new (.ptr nx 0) H nx (.siter l 0) | _ => .no) 
  | false => (match (mkG x).g tm with
    | some .nilMap => R.new (.ptr nx 0) H nx (.iter none 0 [] 0)
    | some (.map id) => (match H.get id with | some (.map _ c) => R.new (.ptr nx 0) H nx (.iter (some id) c [] c) | _ => .no)
    | _ => .no))⟩
def hu_next (str : Bool) (x : CO) (P : Program) (G : Nat) : Hu := ⟨fun tm H nx => (match str with 
  | true => (match (mkG x).g tm with
    | some (.ptr id 0) => (match H.get id with
      | some (.siter l pos) => (match l[pos]? with
        | none => .v (.tup (.cons (.bool false) .nil)) H nx
        | some c => bif Nat.blt c 128 && Nat.ble G id then R.up (.tup (.cons (.bool true) (.cons (.int .i64 (.ofNat pos)) (.cons (.int .i32 (.ofNat c)) .nil)))) nx (H.put id (.siter l (Nat.succ pos))) else .no)
      | _ => .no)
    | _ => .no) 
  | false => (match (mkG x).g tm with
    | some (.ptr id 0) => (match H.get id with
      | some (.iter none _ _ _) => .v (.tup (.cons (.bool false) .nil)) H nx
      | some (.iter (some m) since seen last) => (match H.get m with
        | some (.map es clock) => bif !seen.isEmpty && !es.isEmpty && es.all (fun e => Nat.ble last e.born) then .no else (match es.filter fun e => !seen.contains e.born with
           | [] => .v (.tup (.cons (.bool false) .nil)) H nx
           | [e] => bif Nat.blt e.born since && Nat.ble G id then R.up (.tup (.cons (.bool true) (.cons e.key (.cons e.val .nil)))) nx (H.put id (.iter (some m) since (seen ++ [e.born]) clock)) else .no
           | _ => .no)
        | _ => .no)
      | _ => .no)
    | _ => .no))⟩
def hu_append (s : Nat) (e : Nat) (x : CO) (y : CO) (P : Program) (G : Nat) : Hu := ⟨fun tm H nx => (match (mkG x).g tm, (mkG y).g tm with | some a, some b => appendK G H nx s e a b | _, _ => .no)⟩
def hu_copy (s : Nat) (d : CO) (x : CO) (P : Program) (G : Nat) : Hu := ⟨fun tm H nx => (match (mkG d).g tm, (mkG x).g tm with
    | some d, some x => (match srcK H s x with
      | some (l, m) => (match d with
        | .nilSl | .slE => .v (.int .i64 (.ofNat 0)) H nx
        | .sl id off len _ => (match Nat.min m len with
          | n => (match l.part 0 (Nat.mul n s) with | some l => R.up (.int .i64 (.ofNat n)) nx (wrAtK G H id off l) | none => .no))
        | _ => .no)
      | none => .no)
    | _, _ => .no)⟩
def hu_delete (q : EqS) (m : CO) (k : CO) (P : Program) (G : Nat) : Hu := ⟨fun tm H nx => (match (mkG m).g tm, (mkG k).g tm with
    | some .nilMap, some k => .v undefA H nx
    | some (.map id), some k => (match H.get id with
      | some (.map es c) => bif Nat.ble G id then (match delE q k es with | some es' => R.up undefA nx (H.put id (.map es' c)) | none => .no) else .no
      | _ => .no)
    | _, _ => .no)⟩
def hu_minmax (mx : Bool) (xs : List CO) (P : Program) (G : Nat) : Hu := ⟨fun tm H nx => (match (mkL xs).g tm with | some (.cons x l) => R.of H nx (mmA mx x l) | _ => .no)⟩
def hu_ustr (e : Nat) (x : CO) (n : CO) (P : Program) (G : Nat) : Hu := ⟨fun tm H nx => (match (mkG x).g tm, natOf ((mkG n).g tm) with
    | some .nilPtr, some 0 => .v (.str []) H nx
    | some (.ptr id off), some (n + 1) => (match H.get id with
      | some (.cells c _ _ el) => (match getK c off (n + 1) with
        | some l => (match natsA l, H.put id .dead with | some l, some H' => bif Nat.ble G id && Nat.beq el e && Nat.ble n 100000 then .v (.str l) H' nx else .no | _, _ => .no)
        | none => .no)
      | _ => .no)
    | _, _ => .no)⟩
def hu_call (c : Cal) (xs : List CO) (P : Program) (G : Nat) : Hu := ⟨fun tm H nx => (match c with 
  | .val f => (match (mkG f).g tm, (mkL xs).g tm with
    | some (.fn (.func f) first cap), some args => .call f (first.app (args.app cap))
    | _, _ => .no) 
  | .inv r name => (match (mkG r).g tm, (mkL xs).g tm with
    | some (.iface t v), some args => (match methodOf P t name with | some f => .call f (.cons v args) | none => .no)
    | _, _ => .no))⟩
def hu_defer (f : CO) (xs : List CO) (P : Program) (G : Nat) : Hu := ⟨fun tm H nx => (match (mkG f).g tm, (mkL xs).g tm with
    | some (.fn (.func f) first cap), some args => .defer f (first.app (args.app cap))
    | _, _ => .no)⟩
def pureK (P : Program) (co : COp) : Pu := COp.rec (motive := fun _ => Program → Pu) pu_mv pu_pick pu_bin pu_eq pu_not pu_neg pu_toInt pu_nilchk pu_iface pu_func pu_faddr pu_field pu_fields pu_idxA pu_idxS pu_idxStr pu_idxV pu_idxVs pu_build pu_slStr pu_slArr pu_extract pu_asC pu_asI pu_load pu_loads pu_slice pu_len pu_lenC pu_cap pu_lookup pu_toStr pu_bytesStr pu_toUp pu_fromUp pu_sdata pu_alloc pu_box pu_bslice pu_mkmap pu_mkslice pu_toBytes pu_store pu_mapupd pu_range pu_next pu_append pu_copy pu_delete pu_minmax pu_ustr pu_call pu_defer co P
def readK (P : Program) (co : COp) : Ru := COp.rec (motive := fun _ => Program → Ru) ru_mv ru_pick ru_bin ru_eq ru_not ru_neg ru_toInt ru_nilchk ru_iface ru_func ru_faddr ru_field ru_fields ru_idxA ru_idxS ru_idxStr ru_idxV ru_idxVs ru_build ru_slStr ru_slArr ru_extract ru_asC ru_asI ru_load ru_loads ru_slice ru_len ru_lenC ru_cap ru_lookup ru_toStr ru_bytesStr ru_toUp ru_fromUp ru_sdata ru_alloc ru_box ru_bslice ru_mkmap ru_mkslice ru_toBytes ru_store ru_mapupd ru_range ru_next ru_append ru_copy ru_delete ru_minmax ru_ustr ru_call ru_defer co P
def newK (co : COp) : Nu := COp.rec (motive := fun _ => Nu) nu_mv nu_pick nu_bin nu_eq nu_not nu_neg nu_toInt nu_nilchk nu_iface nu_func nu_faddr nu_field nu_fields nu_idxA nu_idxS nu_idxStr nu_idxV nu_idxVs nu_build nu_slStr nu_slArr nu_extract nu_asC nu_asI nu_load nu_loads nu_slice nu_len nu_lenC nu_cap nu_lookup nu_toStr nu_bytesStr nu_toUp nu_fromUp nu_sdata nu_alloc nu_box nu_bslice nu_mkmap nu_mkslice nu_toBytes nu_store nu_mapupd nu_range nu_next nu_append nu_copy nu_delete nu_minmax nu_ustr nu_call nu_defer co
def heavyK (P : Program) (G : Nat) (co : COp) : Hu := COp.rec (motive := fun _ => Program → Nat → Hu) hu_mv hu_pick hu_bin hu_eq hu_not hu_neg hu_toInt hu_nilchk hu_iface hu_func hu_faddr hu_field hu_fields hu_idxA hu_idxS hu_idxStr hu_idxV hu_idxVs hu_build hu_slStr hu_slArr hu_extract hu_asC hu_asI hu_load hu_loads hu_slice hu_len hu_lenC hu_cap hu_lookup hu_toStr hu_bytesStr hu_toUp hu_fromUp hu_sdata hu_alloc hu_box hu_bslice hu_mkmap hu_mkslice hu_toBytes hu_store hu_mapupd hu_range hu_next hu_append hu_copy hu_delete hu_minmax hu_ustr hu_call hu_defer co P G
def fPu (p : Pu) (s : Sd) (k : K) (tm : T AV) (H : Hp) (nx : Nat) (ds : DS) : VRes := Option.rec (motive := fun _ => VRes) .no (fun v => k (s.s tm v) H nx ds) (p.f tm)
def fRu (p : Ru) (s : Sd) (k : K) (tm : T AV) (H : Hp) (nx : Nat) (ds : DS) : VRes := Option.rec (motive := fun _ => VRes) .no (fun v => k (s.s tm v) H nx ds) (p.f tm H)
def fNu (p : Nu) (s : Sd) (k : K) (tm : T AV) (H : Hp) (nx : Nat) (ds : DS) : VRes := Option.rec (motive := fun _ => VRes) .no (fun vo => Option.rec (motive := fun _ => VRes) .no (fun H => k (s.s tm vo.1) H (Nat.succ nx) ds) (H.put nx vo.2)) (p.f tm nx)
def fHu (p : Hu) (s : Sd) (cl : CLf) (k : K) (tm : T AV) (H : Hp) (nx : Nat) (ds : DS) : VRes :=
  R.rec (motive := fun _ => VRes) .no (fun a H nx => k (s.s tm a) H nx ds) (fun f args => cl f args H nx (fun a H nx => k (s.s tm a) H nx ds)) (fun f args => k (s.s tm undefA) H nx ((f, args) :: ds)) (p.f tm H nx)
def fHuC (P : Program) (ce : CE) (p : Hu) (s : Sd) (cl : CLf) (k : K) (tm : T AV) (H : Hp) (nx : Nat) (ds : DS) : VRes :=
  R.rec (motive := fun _ => VRes) .no (fun a H nx => Bool.rec (motive := fun _ => VRes) .no (k (s.s tm a) H nx ds) (chkA P (s.s tm a) H ce.chk)) (fun f args => cl f args H nx (fun a H nx => Bool.rec (motive := fun _ => VRes) .no (k (s.s tm a) H nx ds) (chkA P (s.s tm a) H ce.chk))) (fun f args => Bool.rec (motive := fun _ => VRes) .no (k (s.s tm undefA) H nx ((f, args) :: ds)) (chkA P (s.s tm undefA) H ce.chk)) (p.f tm H nx)
/-- an operation, told what follows it -/
structure Li where
  link : Fo → Fo
def lk1 (A : K → K) (r : Fo) (cl : CLf) (k : K) : K := A (r.run cl k)
def lk2 (A : CLf → K → K) (r : Fo) (cl : CLf) (k : K) : K := A cl (r.run cl k)
def ln1 (A : K → K) (r : Fo) : Fo := ⟨lk1 A r⟩
def ln2 (A : CLf → K → K) (r : Fo) : Fo := ⟨lk2 A r⟩
def li1 (A : K → K) : Li := ⟨ln1 A⟩
def li2 (A : CLf → K → K) : Li := ⟨ln2 A⟩
section
variable (P : Program) (G : Nat)
/-- any operation but a call, as the slow one does it -/
def fGenR (k : K) (r : ER) : VRes := ER.rec (motive := fun _ => VRes) .no (fun x tm H nx ds => Nat.rec (motive := fun _ => VRes) (k tm H nx ds) (fun _ _ => .no) x) r
def fGen (ce : CE) (k : K) (tm : T AV) (H : Hp) (nx : Nat) (ds : DS) : VRes :=
  fGenR k (opA P G (fun _ _ _ _ => .no) ce tm H nx ds (fun tm H nx ds => .ok 0 tm H nx ds))
/-! operations: what is met often, in a quick way; all else as the slow one does it -/
def fMv (x : Gt) (s : Sd) (k : K) (tm : T AV) (H : Hp) (nx : Nat) (ds : DS) : VRes := Option.rec (motive := fun _ => VRes) .no (fun v => k (s.s tm v) H nx ds) (x.g tm)
def fLoad (x : Gt) (s : Sd) (k : K) (tm : T AV) (H : Hp) (nx : Nat) (ds : DS) : VRes :=
  Option.rec (motive := fun _ => VRes) .no (fun v => vPtr v (fun id off => Option.rec (motive := fun _ => VRes) .no (fun o => vCells o (fun c _ _ _ => Option.rec (motive := fun _ => VRes) .no (fun u => k (s.s tm u) H nx ds) (c.get off)) .no) (H.get id)) .no) (x.g tm)
/-- two ints of one kind -/
def fII (f : IntKind → Int → Int → AV) (ce : CE) (x y : Gt) (s : Sd) (k : K) (tm : T AV) (H : Hp) (nx : Nat) (ds : DS) : VRes :=
  Option.rec (motive := fun _ => VRes) .no (fun a => Option.rec (motive := fun _ => VRes) .no (fun b => vInt a (fun k1 n => vInt b (fun k2 m => Bool.rec (motive := fun _ => VRes) .no (k (s.s tm (f k1 n m)) H nx ds) (Nat.beq (kcode k1) (kcode k2))) (fGen P G ce k tm H nx ds)) (fGen P G ce k tm H nx ds)) (y.g tm)) (x.g tm)
def rAdd (k : IntKind) (n m : Int) : AV := .int k (wrapF k (iadd n m))
def rSub (k : IntKind) (n m : Int) : AV := .int k (wrapF k (iadd n (ineg m)))
def rMul (k : IntKind) (n m : Int) : AV := .int k (wrapF k (imul n m))
def rLss (_ : IntKind) (n m : Int) : AV := .bool (!(ile m n))
def rLeq (_ : IntKind) (n m : Int) : AV := .bool (ile n m)
def rGtr (_ : IntKind) (n m : Int) : AV := .bool (!(ile n m))
def rGeq (_ : IntKind) (n m : Int) : AV := .bool (ile m n)
def rEq (_ : IntKind) (n m : Int) : AV := .bool (ieq n m)
def rNe (_ : IntKind) (n m : Int) : AV := .bool (!(ieq n m))
def fFaddr (off : Nat) (x : Gt) (s : Sd) (k : K) (tm : T AV) (H : Hp) (nx : Nat) (ds : DS) : VRes :=
  Option.rec (motive := fun _ => VRes) .no (fun v => vPtr v (fun id o => k (s.s tm (.ptr id (Nat.add o off))) H nx ds) .no) (x.g tm)
def fNil (ce : CE) (x : Gt) (s : Sd) (k : K) (tm : T AV) (H : Hp) (nx : Nat) (ds : DS) : VRes :=
  Option.rec (motive := fun _ => VRes) .no (fun v => vPtr v (fun id o => k (s.s tm (.ptr id o)) H nx ds) (fGen P G ce k tm H nx ds)) (x.g tm)
def fIdxS (z : Nat) (x i : Gt) (s : Sd) (k : K) (tm : T AV) (H : Hp) (nx : Nat) (ds : DS) : VRes :=
  Option.rec (motive := fun _ => VRes) .no (fun v => Option.rec (motive := fun _ => VRes) .no (fun j => vSl v (fun id o len => vInt j (fun _ n => vNat n (fun m => Bool.rec (motive := fun _ => VRes) .no (k (s.s tm (.ptr id (Nat.add o (Nat.mul m z)))) H nx ds) (Nat.blt m len)) .no) .no) .no) (i.g tm)) (x.g tm)
def fPick (c a b : Gt) (s : Sd) (k : K) (tm : T AV) (H : Hp) (nx : Nat) (ds : DS) : VRes :=
  Option.rec (motive := fun _ => VRes) .no (fun v => vBool v (fun t => Bool.rec (motive := fun _ => VRes) (Option.rec (motive := fun _ => VRes) .no (fun u => k (s.s tm u) H nx ds) (b.g tm)) (Option.rec (motive := fun _ => VRes) .no (fun u => k (s.s tm u) H nx ds) (a.g tm)) t) .no) (c.g tm)
def fToInt (j : IntKind) (ce : CE) (x : Gt) (s : Sd) (k : K) (tm : T AV) (H : Hp) (nx : Nat) (ds : DS) : VRes :=
  Option.rec (motive := fun _ => VRes) .no (fun v => vInt v (fun _ n => k (s.s tm (.int j (wrapF j n))) H nx ds) (fGen P G ce k tm H nx ds)) (x.g tm)
def fExt (i : Nat) (x : Gt) (s : Sd) (k : K) (tm : T AV) (H : Hp) (nx : Nat) (ds : DS) : VRes :=
  Option.rec (motive := fun _ => VRes) .no (fun v => vTup v (fun l => Option.rec (motive := fun _ => VRes) .no (fun u => k (s.s tm u) H nx ds) (l.nth i)) .no) (x.g tm)
def fNot (x : Gt) (s : Sd) (k : K) (tm : T AV) (H : Hp) (nx : Nat) (ds : DS) : VRes :=
  Option.rec (motive := fun _ => VRes) .no (fun v => vBool v (fun b => k (s.s tm (.bool (!b))) H nx ds) .no) (x.g tm)
def fLenS (ce : CE) (x : Gt) (s : Sd) (k : K) (tm : T AV) (H : Hp) (nx : Nat) (ds : DS) : VRes :=
  Option.rec (motive := fun _ => VRes) .no (fun v => vSl v (fun _ _ n => k (s.s tm (.int .i64 (.ofNat n))) H nx ds) (fGen P G ce k tm H nx ds)) (x.g tm)
def fAlloc (c : T AV) (n e : Nat) (s : Sd) (k : K) (tm : T AV) (H : Hp) (nx : Nat) (ds : DS) : VRes :=
  Option.rec (motive := fun _ => VRes) .no (fun H => k (s.s tm (.ptr nx 0)) H (Nat.succ nx) ds) (H.put nx (.cells c n 0 e))
def fStore1 (ce : CE) (a x : Gt) (k : K) (tm : T AV) (H : Hp) (nx : Nat) (ds : DS) : VRes :=
  Option.rec (motive := fun _ => VRes) .no (fun p => Option.rec (motive := fun _ => VRes) .no (fun v => Bool.rec (motive := fun _ => VRes) (fGen P G ce k tm H nx ds) (vPtr p (fun id off => Option.rec (motive := fun _ => VRes) .no (fun o => vCells o (fun c n sz e =>
    Bool.rec (motive := fun _ => VRes) .no (Bool.rec (motive := fun _ => VRes) .no (Option.rec (motive := fun _ => VRes) .no (fun c' => Option.rec (motive := fun _ => VRes) .no (fun H' => k tm H' nx ds) (H.put id (.cells c' n sz e))) (c.put off v)) (Nat.ble (Nat.succ off) n)) (Nat.ble G id)) .no) (H.get id)) .no) (oneA v)) (x.g tm)) (a.g tm)
/-- a call -/
def fCall (ce : CE) (cl : CLf) (k : K) (tm : T AV) (H : Hp) (nx : Nat) (ds : DS) : VRes :=
  match holdsG tm ce.guard with
  | some true => (match heavyA P G ce.co tm H nx with
    | .call f args => cl f args H nx (fun a H nx => match putD tm ce.dst a with | some tm => Bool.rec (motive := fun _ => VRes) .no (k tm H nx ds) (chkA P tm H ce.chk) | none => .no)
    | _ => .no)
  | _ => fGen P G ce k tm H nx ds
/-- a call of a function that is named, where nothing stands guard -/
def fCallF (f : Nat) (xs : Gt) (s : Sd) (cl : CLf) (k : K) (tm : T AV) (H : Hp) (nx : Nat) (ds : DS) : VRes :=
  Option.rec (motive := fun _ => VRes) .no (fun args => cl f args H nx (fun a H nx => k (s.s tm a) H nx ds)) (xs.g tm)
end
/-- any operation, by its kind -/
def gK1 (P : Program) (ce : CE) (s : Sd) : Li := li1 (fRu (readK P ce.co) s)
def gK2 (ce : CE) (s : Sd) : Li := li1 (fNu (newK ce.co) s)
def gK3 (P : Program) (G : Nat) (ce : CE) (s : Sd) : Li := Bool.rec (motive := fun _ => Li) (li2 (fHuC P ce (heavyK P G ce.co) s)) (li2 (fHu (heavyK P G ce.co) s)) ce.chk.isEmpty
def gK (P : Program) (G : Nat) (ce : CE) (s : Sd) : Li := Nat.rec (motive := fun _ => Li) (li1 (fPu (pureK P ce.co) s)) (fun i _ => Nat.rec (motive := fun _ => Li) (gK1 P ce s) (fun j _ => Nat.rec (motive := fun _ => Li) (gK2 ce s) (fun _ _ => gK3 P G ce s) j) i) ce.kd
section
variable (P : Program) (G : Nat)
def fBin (op : BinOp) (ce : CE) (x y : Gt) (s : Sd) (d : Li) : Li := BinOp.rec (motive := fun _ => Li) (li1 (fII P G rAdd ce x y s)) (li1 (fII P G rSub ce x y s)) (li1 (fII P G rMul ce x y s)) d d d d d d d d d d (li1 (fII P G rLss ce x y s)) (li1 (fII P G rLeq ce x y s)) (li1 (fII P G rGtr ce x y s)) (li1 (fII P G rGeq ce x y s)) op
def nilL : AV → Bool | .nil => true | _ => false
def fEq (ce : CE) (ng : Bool) (k : EqK) (x y : CO) (s : Sd) : Li :=
  match k with
  | .s .int => bif ng then (li1 (fII P G rNe ce (mkG x) (mkG y) s)) else (li1 (fII P G rEq ce (mkG x) (mkG y) s))
  | _ => (gK P G ce s)
def fLen (ce : CE) (k : EqS) (x : CO) (s : Sd) : Li := match k with | .slice => (li1 (fLenS P G ce (mkG x) s)) | _ => (gK P G ce s)
def fAl (ce : CE) (z : AV) (e : Nat) (s : Sd) : Li := match rowOf z with | some c => (match z.len with | n => (li1 (fAlloc c n e s))) | none => (gK P G ce s)
def fSt (ce : CE) (n : Nat) (a x : CO) (s : Sd) : Li := bif Nat.beq n 1 && ce.chk.isEmpty && !(isSomeN ce.dst) then (li1 (fStore1 P G ce (mkG a) (mkG x))) else (gK P G ce s)
def fCa (ce : CE) (c : Cal) (xs : List CO) (s : Sd) : Li :=
  bif ce.chk.isEmpty then (match c with
    | .val (.c (.fn (.func f) first cap)) => bif nilL first && nilL cap then (li2 (fCallF f (mkL xs) s)) else (gK P G ce s)
    | _ => (gK P G ce s)) else (gK P G ce s)
end
def hp_mv (x : CO) (P : Program) (G : Nat) (ce : CE) (s : Sd) : Li := (li1 (fMv (mkG x) s))
def hp_pick (c a b : CO) (P : Program) (G : Nat) (ce : CE) (s : Sd) : Li := (li1 (fPick (mkG c) (mkG a) (mkG b) s))
def hp_bin (op : BinOp) (x y : CO) (P : Program) (G : Nat) (ce : CE) (s : Sd) : Li := fBin P G op ce (mkG x) (mkG y) s (gK P G ce s)
def hp_eq (ng : Bool) (k : EqK) (x y : CO) (P : Program) (G : Nat) (ce : CE) (s : Sd) : Li := fEq P G ce ng k x y s
def hp_not (x : CO) (P : Program) (G : Nat) (ce : CE) (s : Sd) : Li := (li1 (fNot (mkG x) s))
def hpx0 (_ : CO) (P : Program) (G : Nat) (ce : CE) (s : Sd) : Li := gK P G ce s
def hp_toInt (j : IntKind) (x : CO) (P : Program) (G : Nat) (ce : CE) (s : Sd) : Li := (li1 (fToInt P G j ce (mkG x) s))
def hp_nilchk (x : CO) (P : Program) (G : Nat) (ce : CE) (s : Sd) : Li := (li1 (fNil P G ce (mkG x) s))
def hpx1 (_ : Nat) (_ : CO) (P : Program) (G : Nat) (ce : CE) (s : Sd) : Li := gK P G ce s
def hpx2 (_ : Fn) (_ : List CO) (_ : List CO) (P : Program) (G : Nat) (ce : CE) (s : Sd) : Li := gK P G ce s
def hp_faddr (off : Nat) (x : CO) (P : Program) (G : Nat) (ce : CE) (s : Sd) : Li := (li1 (fFaddr off (mkG x) s))
def hpx3 (_ : Nat) (_ : Nat) (_ : CO) (P : Program) (G : Nat) (ce : CE) (s : Sd) : Li := gK P G ce s
def hpx4 (_ : Nat) (_ : Nat) (_ : CO) (_ : CO) (P : Program) (G : Nat) (ce : CE) (s : Sd) : Li := gK P G ce s
def hp_idxS (z : Nat) (x i : CO) (P : Program) (G : Nat) (ce : CE) (s : Sd) : Li := (li1 (fIdxS z (mkG x) (mkG i) s))
def hpx5 (_ : CO) (_ : CO) (P : Program) (G : Nat) (ce : CE) (s : Sd) : Li := gK P G ce s
def hpx6 (_ : AV) (_ : List (Nat × Nat × CO)) (P : Program) (G : Nat) (ce : CE) (s : Sd) : Li := gK P G ce s
def hpx7 (_ : CO) (_ : Option CO) (_ : Option CO) (P : Program) (G : Nat) (ce : CE) (s : Sd) : Li := gK P G ce s
def hpx8 (_ : Nat) (_ : Nat) (_ : CO) (_ : Option CO) (_ : Option CO) (_ : Option CO) (P : Program) (G : Nat) (ce : CE) (s : Sd) : Li := gK P G ce s
def hp_extract (i : Nat) (x : CO) (P : Program) (G : Nat) (ce : CE) (s : Sd) : Li := (li1 (fExt i (mkG x) s))
def hpx9 (_ : Nat) (_ : Option AV) (_ : CO) (P : Program) (G : Nat) (ce : CE) (s : Sd) : Li := gK P G ce s
def hpx10 (_ : List (String × Nat)) (_ : Option AV) (_ : CO) (P : Program) (G : Nat) (ce : CE) (s : Sd) : Li := gK P G ce s
def hp_load (x : CO) (P : Program) (G : Nat) (ce : CE) (s : Sd) : Li := (li1 (fLoad (mkG x) s))
def hpx11 (_ : Nat) (_ : CO) (_ : Option CO) (_ : Option CO) (_ : Option CO) (P : Program) (G : Nat) (ce : CE) (s : Sd) : Li := gK P G ce s
def hp_len (k : EqS) (x : CO) (P : Program) (G : Nat) (ce : CE) (s : Sd) : Li := fLen P G ce k x s
def hpx12 (_ : EqS) (_ : AV) (_ : Bool) (_ : CO) (_ : CO) (P : Program) (G : Nat) (ce : CE) (s : Sd) : Li := gK P G ce s
def hp_alloc (z : AV) (e : Nat) (P : Program) (G : Nat) (ce : CE) (s : Sd) : Li := fAl P G ce z e s
def hpx13 (_ : AV) (_ : Nat) (_ : Nat) (_ : Nat) (_ : List (Nat × Nat × CO)) (P : Program) (G : Nat) (ce : CE) (s : Sd) : Li := gK P G ce s
def hpx14  (P : Program) (G : Nat) (ce : CE) (s : Sd) : Li := gK P G ce s
def hpx15 (_ : AV) (_ : Nat) (_ : Nat) (_ : CO) (_ : CO) (P : Program) (G : Nat) (ce : CE) (s : Sd) : Li := gK P G ce s
def hp_store (n : Nat) (a x : CO) (P : Program) (G : Nat) (ce : CE) (s : Sd) : Li := fSt P G ce n a x s
def hpx16 (_ : EqS) (_ : CO) (_ : CO) (_ : CO) (P : Program) (G : Nat) (ce : CE) (s : Sd) : Li := gK P G ce s
def hpx17 (_ : Bool) (_ : CO) (P : Program) (G : Nat) (ce : CE) (s : Sd) : Li := gK P G ce s
def hpx18 (_ : Nat) (_ : CO) (_ : CO) (P : Program) (G : Nat) (ce : CE) (s : Sd) : Li := gK P G ce s
def hpx19 (_ : EqS) (_ : CO) (_ : CO) (P : Program) (G : Nat) (ce : CE) (s : Sd) : Li := gK P G ce s
def hpx20 (_ : Bool) (_ : List CO) (P : Program) (G : Nat) (ce : CE) (s : Sd) : Li := gK P G ce s
def hp_call (c : Cal) (xs : List CO) (P : Program) (G : Nat) (ce : CE) (s : Sd) : Li := fCa P G ce c xs s
def hpx21 (_ : CO) (_ : List CO) (P : Program) (G : Nat) (ce : CE) (s : Sd) : Li := gK P G ce s
section
variable (P : Program) (G : Nat)
def fPlain (ce : CE) (s : Sd) : Li := COp.rec (motive := fun _ => Program → Nat → CE → Sd → Li) hp_mv hp_pick hp_bin hp_eq hp_not hpx0 hp_toInt hp_nilchk hpx1 hpx2 hp_faddr hpx1 hpx3 hpx4 hp_idxS hpx5 hpx4 hpx4 hpx6 hpx7 hpx8 hp_extract hpx9 hpx10 hp_load hpx1 hpx11 hp_len hpx1 hpx0 hpx12 hpx0 hpx0 hpx0 hpx3 hpx0 hp_alloc hpx1 hpx13 hpx14 hpx15 hpx1 hp_store hpx16 hpx17 hpx17 hpx4 hpx18 hpx19 hpx20 hpx18 hp_call hpx21 ce.co P G ce s
def isCall (c : COp) : Bool := match c with | .call _ _ => true | _ => false
def fSlow (ce : CE) : Li := bif isCall ce.co && Nat.ble 3 ce.kd then li2 (fCall P G ce) else li1 (fGen P G ce)
/-- the same, where nothing stands guard -/
def CE.ung (ce : CE) : CE := ⟨ce.dst, none, ce.kd, ce.co, ce.chk⟩
def sameB (w b : Bool) : Bool := Bool.rec (motive := fun _ => Bool) (bn b) b w
def fGuard (ce : CE) (g : Gt) (w : Bool) (s : Sd) (fo r : Fo) (cl : CLf) (k : K) (tm : T AV) (H : Hp) (nx : Nat) (ds : DS) : VRes :=
  Option.rec (motive := fun _ => VRes) .no (fun v => vBool v (fun b => Bool.rec (motive := fun _ => VRes) (r.run cl k (s.s tm undefA) H nx ds) (fo.run cl k tm H nx ds) (sameB w b)) (vTup v (fun _ => r.run cl k (s.s tm undefA) H nx ds) .no)) (g.g tm)
def lnG (ce : CE) (g : Gt) (w : Bool) (s : Sd) (L : Li) (r : Fo) : Fo := ⟨fGuard ce g w s (L.link r) r⟩
def fGrd (ce : CE) (g : Nat × Bool) : Li := Bool.rec (motive := fun _ => Li) (fSlow P G ce) ⟨lnG ce (mkG (.t g.1)) g.2 (mkS ce.dst) (fPlain P G ce.ung (mkS ce.dst))⟩ (bz (mkS ce.dst).ok (Nat.beq ce.kd (kindK ce.co)) false)
def fOp (ce : CE) : Li := Option.rec (motive := fun _ => Li) (Bool.rec (motive := fun _ => Li) (fSlow P G ce) (fPlain P G ce (mkS ce.dst)) (bz (mkS ce.dst).ok (Nat.beq ce.kd (kindK ce.co)) false)) (fun g => fGrd P G ce g) ce.guard
def fNilOps (_ : CLf) (k : K) : K := k
def fOps (l : List CE) : Fo := List.rec (motive := fun _ => Fo) ⟨fNilOps⟩ (fun ce _ r => (fOp P G ce).link r) l

/-! code -/
def noK : K := fun _ _ _ _ => .no
def fBad (_ : CLf) (_ : Nat) (_ : K) (_ : Nat → K) : K := noK
def fSkip (_ : CLf) (_ : Nat) (kn : K) (_ : Nat → K) : K := kn
def fExit (x : Nat) (_ : CLf) (_ : Nat) (_ : K) (kx : Nat → K) : K := kx x
def fSeq (a b : FC) (cl : CLf) (m : Nat) (kn : K) (kx : Nat → K) : K := a.run cl m (b.run cl m kn kx) kx
def fCond (c : Gt) (a b : FC) (cl : CLf) (m : Nat) (kn : K) (kx : Nat → K) (tm : T AV) (H : Hp) (nx : Nat) (ds : DS) : VRes :=
  Option.rec (motive := fun _ => VRes) .no (fun v => vBool v (fun t => Bool.rec (motive := fun _ => VRes) (b.run cl m kn kx tm H nx ds) (a.run cl m kn kx tm H nx ds) t) .no) (c.g tm)
def outK (id : Nat) (kn : K) (kx : Nat → K) (x : Nat) : K := Bool.rec (motive := fun _ => K) (kx x) kn (Nat.beq x id)
def fBlock (id : Nat) (b : FC) (cl : CLf) (m : Nat) (kn : K) (kx : Nat → K) : K := b.run cl m kn (outK id kn kx)
def fLoop (b : FC) (cl : CLf) (m : Nat) (_ : K) (kx : Nat → K) : K := Nat.rec (motive := fun _ => K) noK (fun _ ih => b.run cl m ih kx) m
def fOpsC (l : Fo) (cl : CLf) (_ : Nat) (kn : K) (_ : Nat → K) : K := l.run cl kn
def fC (c : CC) : FC := CC.rec (motive := fun _ => FC) ⟨fBad⟩ ⟨fSkip⟩ ⟨fExit 1⟩ (fun id => ⟨fExit (Nat.add id 2)⟩) (fun _ _ a b => ⟨fSeq a b⟩) (fun c _ _ a b => ⟨fCond (mkG c) a b⟩)
  (fun id _ b => ⟨fBlock (Nat.add id 2) b⟩) (fun _ b => ⟨fLoop b⟩) (fun l => ⟨fOpsC (fOps P G l)⟩) c

def fEnd (rf : Nat) (res : List CRes) (kc : KC) (tm : T AV) (H : Hp) (nx : Nat) (ds : DS) : VRes :=
  match runD (rdA rf) ds H nx with
  | .no => .no
  | .ok _ H nx => Option.rec (motive := fun _ => VRes) .no (fun l => kc (resOf l) H nx) (resA tm H res)
def fRetK (k : K) (x : Nat) : K := Bool.rec (motive := fun _ => K) noK k (Nat.beq x 1)
def fGo (rf : Nat) (c : FC) (N : Nat) (res : List CRes) (cl : CLf) (m : Nat) (args : AV) (H : Hp) (nx : Nat) (kc : KC) : VRes :=
  Option.rec (motive := fun _ => VRes) .no (fun tm => c.run cl m (fEnd rf res kc) (fRetK (fEnd rf res kc)) tm H nx []) (initK N args)
def fExtn (x : Ext) (_ : CLf) (_ : Nat) (args : AV) (H : Hp) (nx : Nat) (kc : KC) : VRes := match extA x args H nx with | .v a H nx => kc a H nx | _ => .no
def fNone (_ : CLf) (_ : Nat) (_ : AV) (_ : Hp) (_ : Nat) (_ : KC) : VRes := .no
def fFn (rf : Nat) (f : Nat) : FF := match cFn P G f with | .bad => ⟨fNone⟩ | .ext x => ⟨fExtn x⟩ | .go c N res => ⟨fGo rf (fC P G c) N res⟩
/-- a function's number that is reckoned first -/
def fFnN (rf : Nat) (f : Nat) : FF := Nat.rec (motive := fun _ => FF) (fFn P G rf 0) (fun j _ => fFn P G rf (Nat.succ j)) f
def fcall (rf : Nat) (m : Nat) (n : Nat) : CLf := Nat.rec (motive := fun _ => CLf) (fun _ _ _ _ _ => .no) (fun _ ih f args H nx kc => (fFnN P G rf f).run ih m args H nx kc) n
def fin (v : AV) (H : Hp) (nx : Nat) : VRes := .ok v H nx
end
end Go.Ev

namespace Go.Ev
noncomputable def strA (l : List UInt8) : AV := .str (l.map (·.toNat))
noncomputable def strsA (ls : List (List UInt8)) : AV := AV.ofList (ls.map strA)
/-- what stands at these places, in a row -/
noncomputable def hpOf : List AO → Nat → Hp → Option Hp
  | [], _, H => some H
  | o :: l, i, H => (match H.put i o with | some H' => hpOf l (i + 1) H' | none => none)
noncomputable def okT (o : VRes) : Bool := match o with | .ok (.bool b) _ _ => b | _ => false
/-- the law's own function step by step, its calls by the quick one: what is called alike is reckoned once -/
noncomputable def evT (P : Program) (G : Nat) (cf : Nat → AV → Hp → Nat → VRes) (n : Nat) : CC → T AV → Hp → Nat → DS → ER :=
  Nat.rec (motive := fun _ => CC → T AV → Hp → Nat → DS → ER) (fun _ _ _ _ _ => .no) (fun _ ih => stepC P G cf ih) n
noncomputable def topA (P : Program) (G rf m : Nat) (f : Nat) (args : AV) (H : Hp) (nx : Nat) : VRes :=
  callA P G (evT P G (fun f args H nx => fcall P G rf m 1000 f args H nx fin) m) (rdA rf) f args H nx

/-! a call that is known to be true, and to leave all that lay there as it was: told, not reckoned again -/
def sameS (a b : Option AV) : Bool := match a, b with | some (.str x), some (.str y) => x == y | _, _ => false
/-- do these cells hold these texts? -/
noncomputable def rowOK (c c0 : T AV) (n : Nat) : Bool := (List.range n).all (fun i => sameS (c.get i) (c0.get i))
/-- the heap of the start: one global row of texts at place g -/
noncomputable def heapOK (g n e : Nat) (c0 : T AV) (H : Hp) : Bool := match H.get g with | some (.cells c m sz t) => Nat.beq m n && Nat.beq sz 0 && Nat.beq t e && rowOK c c0 n | _ => false
def nilA : AV → Bool | .nil => true | _ => false
noncomputable def orA (G g n e : Nat) (c0 : T AV) (a : Nat) (ih : Nat → AV → Hp → Nat → VRes) (f : Nat) (args : AV) (H : Hp) (nx : Nat) : VRes :=
  bif Nat.beq f a && nilA args && Nat.beq nx G && heapOK g n e c0 H then .ok (.bool true) H nx else ih f args H nx
noncomputable def topO (P : Program) (G rf m : Nat) (g n e : Nat) (c0 : T AV) (a : Nat) (f : Nat) (args : AV) (H : Hp) (nx : Nat) : VRes :=
  callA P G (evT P G (orA G g n e c0 a (fun f args H nx => fcall P G rf m 1000 f args H nx fin)) m) (rdA rf) f args H nx

end Go.Ev

namespace Go.Ev
/-! a call whose result is told: the objects that it leaves, as far as they are wanted -/
/-- an object that is told: its cells, or its entries -/
inductive TO where
  | cells (n sz e : Nat) (l : AV)
  | map (es : List Ent) (clock : Nat)
def rowD (l : AV) : T AV := match rowOf l with | some c => c | none => .e
def toAO (t : TO) : AO := TO.rec (motive := fun _ => AO) (fun n sz e l => .cells (rowD l) n sz e) (fun es ck => .map es ck) t
/-- runs of one value -/
def ofRuns : List (Nat × AV) → AV
  | [] => .nil
  | (n, v) :: l => AV.app (AV.rep (.cons v .nil) n) (ofRuns l)
def hpT : List (Nat × TO) → Option Hp
  | [] => some .e
  | (i, t) :: l => (match hpT l with | some H => H.put i (toAO t) | none => none)
def heapT (l : List (Nat × TO)) : Hp := match hpT l with | some H => H | none => .e
def subL : AV → T AV → Nat → Bool
  | .cons h t, c, i => (match c.get i with | some u => sameAV 100 h u && subL t c (Nat.succ i) | none => false)
  | .nil, _, _ => true
  | _, _, _ => false
def sameEs : List Ent → List Ent → Bool
  | [], [] => true
  | a :: l, b :: m => sameAV 100 a.key b.key && (sameAV 100 a.val b.val && (Nat.beq a.born b.born && sameEs l m))
  | _, _ => false
def rowQ : AV → Bool
  | .nil => true
  | .cons _ t => rowQ t
  | _ => false
def subT (t : TO) (o : Option AO) : Bool :=
  match t, o with
  | .cells n sz e l, some (.cells c n' sz' e') => Nat.beq n n' && (Nat.beq sz sz' && (Nat.beq e e' && (Nat.ble l.len n && (rowQ l && subL l c 0))))
  | .map es ck, some (.map es' ck') => Nat.beq ck ck' && sameEs es es'
  | _, _ => false
def tellOK (tl : List (Nat × TO)) (nk : Nat) (v : AV) (r : VRes) : Bool :=
  match r with
  | .ok v' H' nx' => sameAV 100 v v' && (Nat.beq nx' nk && tl.all (fun p => Nat.blt p.1 nk && subT p.2 (H'.get p.1)))
  | .no => false
def isSomeH (H : Option Hp) : Bool := match H with | some _ => true | none => false
def tellA (G g n e : Nat) (c0 : T AV) (a : Nat) (args0 : AV) (v : AV) (Hk : Hp) (nk : Nat) (ih : Nat → AV → Hp → Nat → VRes) (f : Nat) (args : AV) (H : Hp) (nx : Nat) : VRes :=
  bif Nat.beq f a && (sameAV 20 args args0 && (Nat.beq nx G && heapOK g n e c0 H)) then .ok v Hk nk else ih f args H nx
def topT (P : Program) (G rf m : Nat) (g n e : Nat) (c0 : T AV) (a : Nat) (b : Nat) (args0 : AV) (v : AV) (Hk : Hp) (nk : Nat) (f : Nat) (args : AV) (H : Hp) (nx : Nat) : VRes :=
  callA P G (evT P G (orA G g n e c0 a (tellA G g n e c0 b args0 v Hk nk (fun f args H nx => fcall P G rf m 1000 f args H nx fin))) m) (rdA rf) f args H nx
end Go.Ev

namespace Go.Ev
/-! a call whose result is told beside what lies there: it was reckoned on the globals alone, its new objects are numbered from N on; a number may be told as a range -/
def wideAV (h u : AV) : Bool :=
  match h with
  | .rng (some lo) (some hi) => (match u with | .int .i64 n => ile lo n && ile n hi | _ => false)
  | _ => sameAV 100 h u
def subW : AV → T AV → Nat → Bool
  | .cons h t, c, i => (match c.get i with | some u => wideAV h u && subW t c (Nat.succ i) | none => false)
  | .nil, _, _ => true
  | _, _, _ => false
def subX (t : TO) (o : Option AO) : Bool :=
  match t, o with
  | .cells n sz e l, some (.cells c n' sz' e') => Nat.beq n n' && (Nat.beq sz sz' && (Nat.beq e e' && (Nat.ble l.len n && (rowQ l && subW l c 0))))
  | .map es ck, some (.map es' ck') => Nat.beq ck ck' && sameEs es es'
  | _, _ => false
def tellX (N : Nat) (tl : List (Nat × TO)) (nk : Nat) (v : AV) (r : VRes) : Bool :=
  match r with
  | .ok v' H' nx' => sameAV 100 v v' && (Nat.ble nx' nk && tl.all (fun p => Nat.ble N p.1 && subX p.2 (H'.get p.1)))
  | .no => false
def putTL : List (Nat × TO) → Hp → Option Hp
  | [], H => some H
  | (i, t) :: l, H => (match putTL l H with | some H' => H'.put i (toAO t) | none => none)
def closedA : AV → Bool
  | .str _ => true
  | .int _ _ => true
  | .bool _ => true
  | .nil => true
  | .cons h t => closedA h && closedA t
  | _ => false
def tellB (N g n e : Nat) (c0 : T AV) (b : Nat) (args0 : AV) (v : AV) (tl : List (Nat × TO)) (nk : Nat) (ih : Nat → AV → Hp → Nat → VRes) (f : Nat) (args : AV) (H : Hp) (nx : Nat) : VRes :=
  bif Nat.beq f b && (sameAV 400 args args0 && (closedA args0 && (Nat.ble nx N && heapOK g n e c0 H))) then (match putTL tl H with | some H' => .ok v H' nk | none => .no) else ih f args H nx
/-- one function is stepped through, its calls by `cf` -/
def intoA (P : Program) (G rf m : Nat) (r : Nat) (cf ih : Nat → AV → Hp → Nat → VRes) (f : Nat) (args : AV) (H : Hp) (nx : Nat) : VRes :=
  bif Nat.beq f r then callA P G (evT P G cf m) (rdA rf) f args H nx else ih f args H nx
/-- awake told, one call's result told, one function stepped through, and in it one more call's result told -/
def topG (P : Program) (G rf m : Nat) (g n e : Nat) (c0 : T AV) (a b : Nat) (args0 v : AV) (Hk : Hp) (nk : Nat) (r q N : Nat) (args1 v1 : AV) (tl1 : List (Nat × TO)) (nk1 : Nat) (f : Nat) (args : AV) (H : Hp) (nx : Nat) : VRes :=
  callA P G (evT P G (orA G g n e c0 a (intoA P G rf m r (tellB N g n e c0 q args1 v1 tl1 nk1 (fun f args H nx => fcall P G rf m 1000 f args H nx fin))
    (tellA G g n e c0 b args0 v Hk nk (fun f args H nx => fcall P G rf m 1000 f args H nx fin)))) m) (rdA rf) f args H nx
end Go.Ev

namespace Go.Ev
/-! a state that is told: what a call leaves, told by names of one's own; a value may be told more widely -/
def lookN : List (Nat × Nat) → Nat → Nat
  | [], i => i
  | (a, b) :: l, i => bif Nat.beq a i then b else lookN l i
/-- the name of one's own `i` there: names from nk on are none's -/
def renN (ρ : List (Nat × Nat)) (nk dead i : Nat) : Nat := bif Nat.blt i nk then lookN ρ i else dead
def ren (f : Nat → Nat) : AV → AV
  | .ptr i o => .ptr (f i) o
  | .sl i o n c => .sl (f i) o n c
  | .map i => .map (f i)
  | .fn g a c => .fn g (ren f a) (ren f c)
  | .iface t v => .iface t (ren f v)
  | .cons h t => .cons (ren f h) (ren f t)
  | .agg l => .agg (ren f l)
  | .tup l => .tup (ren f l)
  | v => v
/-- a byte of which some bits are told -/
def wideB (m r : Nat) (u : AV) : Bool :=
  match u with
  | .int .u8 (.ofNat n) => Nat.blt n 256 && (Nat.ble 512 m && Nat.beq (Nat.land n (Nat.sub m 512)) r)
  | .rs .u8 m' r' => Nat.ble 512 m && (Nat.ble 512 m' && (Nat.beq (Nat.land (Nat.sub m' 512) (Nat.sub m 512)) (Nat.sub m 512) && Nat.beq (Nat.land r' (Nat.sub m 512)) r))
  | _ => false
def wideV : AV → AV → Bool
  | .unk, u => oneA u
  | .cons a b, u => (match u with | .cons c d => wideV a c && wideV b d | _ => false)
  | .agg a, u => (match u with | .agg c => wideV a c | _ => false)
  | .tup a, u => (match u with | .tup c => wideV a c | _ => false)
  | .rs k m r, u => (match k with | .u8 => wideB m r u | _ => false)
  | h, u => sameAV 100 h u
def subR (f : Nat → Nat) : AV → T AV → Nat → Bool
  | .cons h t, c, i => (match c.get i with | some u => wideV (ren f h) u && subR f t c (Nat.succ i) | none => false)
  | .nil, _, _ => true
  | _, _, _ => false
def sameEsR (f : Nat → Nat) : List Ent → List Ent → Bool
  | [], [] => true
  | a :: l, b :: m => wideV (ren f a.key) b.key && (wideV (ren f a.val) b.val && (Nat.beq a.born b.born && sameEsR f l m))
  | _, _ => false
def subRT (f : Nat → Nat) (t : TO) (o : Option AO) : Bool :=
  match t, o with
  | .cells n sz e l, some (.cells c n' sz' e') => Nat.beq n n' && (Nat.beq sz sz' && (Nat.beq e e' && (Nat.ble l.len n && (rowQ l && subR f l c 0))))
  | .map es ck, some (.map es' ck') => Nat.beq ck ck' && sameEsR f es es'
  | _, _ => false
def freshN : List Nat → Bool
  | [] => true
  | a :: l => !(l.any (Nat.beq a)) && freshN l
def tellR (ρ : List (Nat × Nat)) (tl : List (Nat × TO)) (nk : Nat) (v : AV) (r : VRes) : Bool :=
  match r with
  | .ok v' H' nx' => wideV (ren (renN ρ nk nx') v) v' && (freshN (tl.map (fun p => lookN ρ p.1)) && tl.all (fun p => Nat.blt p.1 nk && subRT (renN ρ nk nx') p.2 (H'.get (lookN ρ p.1))))
  | .no => false
end Go.Ev
