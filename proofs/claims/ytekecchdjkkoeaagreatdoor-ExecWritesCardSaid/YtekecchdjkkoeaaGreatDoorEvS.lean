/- A part of the proof of this seat's statements. No condition. -/
import Derived.Test.YtekecchdjkkoeaaGreatDoorEv1
set_option linter.unusedVariables false
set_option linter.unusedSimpArgs false
noncomputable section
namespace Go.Ev
/-! a call whose result is told: the objects that it leaves, as far as they are wanted -/
/-- an object that is told: its cells, or its entries -/
inductive TO where
  | cells (n sz e : Nat) (l : AV)
  | map (es : List Ent) (clock : Nat)
def rowD (l : AV) : T AV := match rowOf l with | some c => c | none => .e
def toAO (t : TO) : AO := TO.rec (motive := fun _ => AO) (fun n sz e l => .cells (rowD l) n sz e) (fun es ck => .map es ck) t
/-- runs of one value -/
def ofRuns : List (Nat × AV) → AV
  | [] => .nil
  | (n, v) :: l => AV.app (AV.rep (.cons v .nil) n) (ofRuns l)
def hpT : List (Nat × TO) → Option Hp
  | [] => some .e
  | (i, t) :: l => (match hpT l with | some H => H.put i (toAO t) | none => none)
def heapT (l : List (Nat × TO)) : Hp := match hpT l with | some H => H | none => .e
def subL : AV → T AV → Nat → Bool
  | .cons h t, c, i => (match c.get i with | some u => sameAV 100 h u && subL t c (Nat.succ i) | none => false)
  | .nil, _, _ => true
  | _, _, _ => false
def sameEs : List Ent → List Ent → Bool
  | [], [] => true
  | a :: l, b :: m => sameAV 100 a.key b.key && (sameAV 100 a.val b.val && (Nat.beq a.born b.born && sameEs l m))
  | _, _ => false
def rowQ : AV → Bool
  | .nil => true
  | .cons _ t => rowQ t
  | _ => false
def subT (t : TO) (o : Option AO) : Bool :=
  match t, o with
  | .cells n sz e l, some (.cells c n' sz' e') => Nat.beq n n' && (Nat.beq sz sz' && (Nat.beq e e' && (Nat.ble l.len n && (rowQ l && subL l c 0))))
  | .map es ck, some (.map es' ck') => Nat.beq ck ck' && sameEs es es'
  | _, _ => false
def tellOK (tl : List (Nat × TO)) (nk : Nat) (v : AV) (r : VRes) : Bool :=
  match r with
  | .ok v' H' nx' => sameAV 100 v v' && (Nat.beq nx' nk && tl.all (fun p => Nat.blt p.1 nk && subT p.2 (H'.get p.1)))
  | .no => false
def isSomeH (H : Option Hp) : Bool := match H with | some _ => true | none => false
def tellA (G g n e : Nat) (c0 : T AV) (a : Nat) (args0 : AV) (v : AV) (Hk : Hp) (nk : Nat) (ih : Nat → AV → Hp → Nat → VRes) (f : Nat) (args : AV) (H : Hp) (nx : Nat) : VRes :=
  bif Nat.beq f a && (sameAV 20 args args0 && (Nat.beq nx G && heapOK g n e c0 H)) then .ok v Hk nk else ih f args H nx
def topT (P : Program) (G rf m : Nat) (g n e : Nat) (c0 : T AV) (a : Nat) (b : Nat) (args0 : AV) (v : AV) (Hk : Hp) (nk : Nat) (f : Nat) (args : AV) (H : Hp) (nx : Nat) : VRes :=
  callA P G (evT P G (orA G g n e c0 a (tellA G g n e c0 b args0 v Hk nk (fun f args H nx => fcall P G rf m 1000 f args H nx fin))) m) (rdA rf) f args H nx
end Go.Ev
