/- An evaluator of the model, and why what it tells is so (part 1). No condition. -/
import Derived.Orders
import Derived.Wp
import Derived.Laws.Sem
import GoSem.Dispatch
import Derived.Laws.Strings
import Derived.Laws.StructEq
set_option linter.unusedVariables false
set_option linter.unusedSimpArgs false
noncomputable section
namespace Go.Ev

/-- rows by place: 0 at the root, then by the bits of what is left -/
inductive T (α : Type) where
  | e
  | n (v : α) (l r : T α)

namespace T
variable {α : Type}
def get (t : T α) : Nat → Option α :=
  T.rec (motive := fun _ => Nat → Option α) (fun _ => none)
    (fun v _ _ gl gr i => Nat.rec (motive := fun _ => Option α) (some v)
      (fun j _ => Nat.rec (motive := fun _ => Option α) (gl (Nat.div j 2)) (fun _ _ => gr (Nat.div j 2)) (Nat.mod j 2)) i) t
/-- at a place that is there, or at the next one -/
def put (t : T α) : Nat → α → Option (T α) :=
  T.rec (motive := fun _ => Nat → α → Option (T α)) (fun i x => Nat.rec (motive := fun _ => Option (T α)) (some (.n x .e .e)) (fun _ _ => none) i)
    (fun v l r gl gr i x => Nat.rec (motive := fun _ => Option (T α)) (some (.n x l r))
      (fun j _ => Nat.rec (motive := fun _ => Option (T α))
         (Option.rec (motive := fun _ => Option (T α)) none (fun l' => some (.n v l' r)) (gl (Nat.div j 2) x))
         (fun _ _ => Option.rec (motive := fun _ => Option (T α)) none (fun r' => some (.n v l r')) (gr (Nat.div j 2) x)) (Nat.mod j 2)) i) t
/-- n times the same -/
def rep (x : α) : Nat → Nat → T α
  | 0, _ => .e
  | _ + 1, 0 => .e
  | f + 1, k + 1 => .n x (rep x f (Nat.div (Nat.succ k) 2)) (rep x f (Nat.div k 2))
end T

inductive AV where
  | bool (b : Bool)
  | int (k : IntKind) (n : Int)
  | str (l : List Nat)
  | nilPtr
  | ptr (id off : Nat)
  | nilSl
  | sl (id off len : Nat) (cap : Option Nat)
  | slE
  | nilMap
  | map (id : Nat)
  | fn (f : Fn) (first cap : AV)
  | nilFn
  | iface (t : Nat) (v : AV)
  | nilIface
  | nil
  | cons (h t : AV)
  | agg (l : AV)
  | tup (l : AV)
  | unk
  | rng (lo hi : Option Int)
  | rs (k : IntKind) (m r : Nat)
  deriving Inhabited

namespace AV
def ofList : List AV → AV
  | [] => .nil
  | a :: l => .cons a (ofList l)
/-- the cells of a value, as a row -/
def cells (v : AV) : AV := match v with | .agg l => l | v => .cons v .nil
def len (v : AV) : Nat := AV.rec (motive := fun _ => Nat) (fun _ => 0) (fun _ _ => 0) (fun _ => 0) 0 (fun _ _ => 0) 0 (fun _ _ _ _ => 0) 0 0 (fun _ => 0) (fun _ _ _ _ _ => 0) 0 (fun _ _ _ => 0) 0
  0 (fun _ _ _ t => Nat.succ t) (fun _ _ => 0) (fun _ _ => 0) 0 (fun _ _ => 0) (fun _ _ _ => 0) v
def app : AV → AV → AV
  | .cons h t, m => .cons h (app t m)
  | _, m => m
def nth : AV → Nat → Option AV
  | .cons h _, 0 => some h
  | .cons _ t, i + 1 => nth t i
  | _, _ => none
/-- n of them from i on -/
def part : AV → Nat → Nat → Option AV
  | _, _, 0 => some .nil
  | .cons h t, 0, n + 1 => (match part t 0 n with | some l => some (.cons h l) | none => none)
  | .cons _ t, i + 1, n + 1 => part t i (n + 1)
  | _, _, _ + 1 => none
def rep (z : AV) : Nat → AV
  | 0 => .nil
  | n + 1 => app z (rep z n)
end AV

abbrev undefA : AV := .tup .nil

structure Ent where
  key : AV
  val : AV
  born : Nat

inductive AO where
  /-- cells, how many are sure, the step of an open row (0: it is shut), its type -/
  | cells (c : T AV) (n sz e : Nat)
  | map (es : List Ent) (clock : Nat)
  | iter (m : Option Nat) (since : Nat) (seen : List Nat) (stepped : Nat)
  | siter (s : List Nat) (pos : Nat)
  | dead

abbrev Hp := T AO

inductive CO where
  | t (i : Nat)
  | c (v : AV)

def conv : Nat → Value → Option AV
  | 0, _ => none
  | n + 1, v => match v with
    | .bool b => some (.bool b)
    | .int k m => some (.int k m)
    | .string s => some (.str (s.data.toList.map (·.toNat)))
    | .pointer none => some .nilPtr
    | .slice none 0 0 => some .nilSl
    | .map none => some .nilMap
    | .nilFunc => some .nilFn
    | .nilIface => some .nilIface
    | .iface t v => (match conv n v with | some x => some (.iface t x) | none => none)
    | .agg cs => (match convL n cs.toList with | some x => some (.agg x) | none => none)
    | .tuple cs => (match convL n cs.toList with | some x => some (.tup x) | none => none)
    | .func f a b => (match convL n a.toList, convL n b.toList with | some x, some y => some (.fn f x y) | _, _ => none)
    | _ => none
where convL : Nat → List Value → Option AV
  | _, [] => some .nil
  | 0, _ => none
  | n + 1, v :: l => (match conv n v, convL n l with | some x, some y => some (.cons x y) | _, _ => none)

def opdOf (G : Nat) : Operand → Option CO
  | .tmp i => some (.t i)
  | .const v => (match conv 600 v with | some x => some (.c x) | none => none)
  | .global g => bif Nat.blt g G then some (.c (.ptr g 0)) else none
  | .func f => some (.c (.fn (.func f) .nil .nil))

def opdsOf (G : Nat) : List Operand → Option (List CO)
  | [] => some []
  | x :: l => (match opdOf G x, opdsOf G l with | some a, some b => some (a :: b) | _, _ => none)

def opdO (G : Nat) : Option Operand → Option (Option CO)
  | none => some none
  | some x => (match opdOf G x with | some a => some (some a) | none => none)

inductive Cal where
  | val (x : CO)
  | inv (x : CO) (name : String)

inductive EqS where
  | int | str | bool | ptr | slice | map | func | iface
inductive EqK where
  | s (k : EqS)
  | flat (l : List (Nat × EqS))

inductive COp where
  | mv (x : CO)
  | pick (c a b : CO)
  | bin (op : BinOp) (x y : CO)
  | eq (neg : Bool) (k : EqK) (x y : CO)
  | not (x : CO)
  | neg (x : CO)
  | toInt (k : IntKind) (x : CO)
  | nilchk (x : CO)
  | iface (t : Nat) (x : CO)
  | func (f : Fn) (first cap : List CO)
  | faddr (off : Nat) (x : CO)
  | field (off : Nat) (x : CO)
  | fields (off n : Nat) (x : CO)
  | idxA (n s : Nat) (x i : CO)
  | idxS (s : Nat) (x i : CO)
  | idxStr (x i : CO)
  | idxV (n s : Nat) (x i : CO)
  | idxVs (n s : Nat) (x i : CO)
  | build (z : AV) (ps : List (Nat × Nat × CO))
  | slStr (x : CO) (lo hi : Option CO)
  | slArr (n s : Nat) (x : CO) (lo hi mx : Option CO)
  | extract (i : Nat) (x : CO)
  | asC (t : Nat) (z : Option AV) (x : CO)
  | asI (want : List (String × Nat)) (z : Option AV) (x : CO)
  -- what looks at memory
  | load (x : CO)
  | loads (n : Nat) (x : CO)
  | slice (s : Nat) (x : CO) (lo hi mx : Option CO)
  | len (k : EqS) (x : CO)
  | lenC (n : Nat) (x : CO)
  | cap (x : CO)
  | lookup (q : EqS) (z : AV) (ok : Bool) (m k : CO)
  | toStr (x : CO)
  | bytesStr (x : CO)
  | toUp (x : CO)
  | fromUp (u s : Nat) (x : CO)
  | sdata (x : CO)
  -- what makes memory
  | alloc (z : AV) (e : Nat)
  | box (e : Nat) (x : CO)
  | bslice (z : AV) (len s e : Nat) (ps : List (Nat × Nat × CO))
  | mkmap
  | mkslice (z : AV) (s e : Nat) (l c : CO)
  | toBytes (e : Nat) (x : CO)
  -- what acts
  | store (n : Nat) (a x : CO)
  | mapupd (q : EqS) (m k v : CO)
  | range (str : Bool) (x : CO)
  | next (str : Bool) (x : CO)
  | append (s e : Nat) (x y : CO)
  | copy (s : Nat) (x y : CO)
  | delete (q : EqS) (m k : CO)
  | minmax (mx : Bool) (xs : List CO)
  | ustr (e : Nat) (x n : CO)
  | call (c : Cal) (xs : List CO)
  | defer (x : CO) (xs : List CO)

section types
variable (P : Program) (G : Nat)
def tySize (t : Nat) : Option Nat := match P.info? t with | some i => some i.size | none => none
def tyAgg (t : Nat) : Option Bool := match P.underlying t with | some (.struct _) | some (.array _ _) => some true | some _ => some false | none => none
def tyZero (t : Nat) : Option AV := match P.info? t with | some i => (match i.zero with | some v => conv 3000 v | none => none) | none => none
def smallBytes (t : Nat) : Bool := match P.info? t with | some i => Nat.ble i.bytes 1000000 | none => false
def tyZeroC (t : Nat) : Option AV := match tyZero P t with | some z => some z.cells | none => none
def tyField (s f : Nat) : Option (Nat × Nat) := match P.underlying s with | some (.struct fs) => (match fs[f]? with | some x => some (x.type, x.offset) | none => none) | _ => none
def tySlice (t : Nat) : Option (Nat × Nat) := match P.underlying t with | some (.slice e) => (match tySize P e with | some s => some (e, s) | none => none) | _ => none
def tyArr (t : Nat) : Option (Nat × Nat × Nat) := match P.underlying t with | some (.array n e) => (match tySize P e with | some s => some (n, e, s) | none => none) | _ => none
def sized : List Field → Bool
  | [] => true
  | f :: l => (match tySize P f.type with | some _ => sized l | none => false)
def partsS (t : Nat) : List (Nat × Operand) → Option (List (Nat × Nat × CO))
  | [] => some []
  | (i, x) :: l => (match tyField P t i with
    | some (ft, off) => (match tySize P ft, opdOf G x, partsS t l with | some s, some a, some b => some ((off, s, a) :: b) | _, _, _ => none)
    | none => none)
def partsA (G : Nat) (s : Nat) : List (Nat × Operand) → Option (List (Nat × Nat × CO))
  | [] => some []
  | (i, x) :: l => (match opdOf G x, partsA G s l with | some a, some b => some ((i * s, s, a) :: b) | _, _ => none)

def o1 {α β : Type} (x : Option α) (f : α → Option β) : Option β := match x with | some a => f a | none => none

def eqSOf (t : Nat) : Option EqS :=
  match P.underlying t with
  | some .bool => some .bool
  | some (.int _) => some .int
  | some .string => some .str
  | some (.pointer e) => (match tySize P e with | some (_ + 1) => some .ptr | _ => none)
  | some (.slice _) => some .slice
  | some (.map _ _) => some .map
  | some (.func _ _ _) => some .func
  | some (.interface _) => some .iface
  | _ => none
def eqFields : List Field → Option (List (Nat × EqS))
  | [] => some []
  | f :: l => (match eqSOf P f.type, eqFields l with | some k, some m => bif f.name == "_" then none else some ((f.offset, k) :: m) | _, _ => none)
def eqKOf (t : Nat) (cst : Bool) : Option EqK :=
  match eqSOf P t with
  | some .iface => bif cst then some (.s .iface) else none
  | some k => some (.s k)
  | none => (match P.underlying t with
    | some (.struct fs) => bif P.stoodInHeld t || P.eqGuardType P.depth t then none else (match eqFields P fs.toList with | some l => some (.flat l) | none => none)
    | _ => none)
def keyKind (t : Nat) : Option EqS :=
  match P.underlying t with
  | some .bool => some .bool
  | some (.int _) => some .int
  | some .string => some .str
  | _ => none
def mapKind (t : Nat) : Option EqS := match P.underlying t with | some (.map k _) => keyKind P k | _ => none

def cConvert (s d : Nat) (x : CO) : Option COp :=
  match P.underlying s, P.underlying d with
  | some (.int _), some (.int k) => some (.toInt k x)
  | some (.string), some .string => some (.toStr x)
  | some (.int _), some .string => some (.toStr x)
  | some (.slice e), some .string => (match P.underlying e with | some (.int .u8) => some (.bytesStr x) | _ => none)
  | some .string, some (.slice e) => (match P.underlying e with | some (.int .u8) => some (.toBytes e x) | _ => none)
  | some (.pointer t), some .unsafePointer => (match tySize P t with | some (_ + 1) => some (.toUp x) | _ => none)
  | some .unsafePointer, some (.pointer u) => (match tySize P u with | some (n + 1) => some (.fromUp u (n + 1) x) | _ => none)
  | _, _ => none

def cBuiltin (b : Builtin) (ts : List Nat) (xs : List CO) : Option COp :=
  match b, ts, xs with
  | .len, [t], [x] => (match P.underlying t with
    | some .string => some (.len .str x)
    | some (.slice _) => some (.len .slice x)
    | some (.map _ _) => some (.len .map x)
    | some (.array n _) => some (.lenC n x)
    | some (.pointer a) => (match P.underlying a with | some (.array n _) => some (.lenC n x) | _ => none)
    | _ => none)
  | .cap, [t], [x] => (match P.underlying t with | some (.slice _) => some (.cap x) | _ => none)
  | .append, [t, u], [x, y] => (match tySlice P t, P.underlying u with
    | some (e, s), some (.int _) => none
    | some (e, s), some _ => (match tyZeroC P e with | some z => bif Nat.beq z.len s && smallBytes P e && Nat.blt 0 s then some (.append s e x y) else none | none => none)
    | _, _ => none)
  | .copy, [t, _], [x, y] => (match tySlice P t with | some (_, s) => some (.copy s x y) | none => none)
  | .min, _, xs => some (.minmax false xs)
  | .max, _, xs => some (.minmax true xs)
  | .delete, [t, _], [m, k] => o1 (mapKind P t) fun q => some (.delete q m k)
  | .unsafeSliceData, _, [x] => some (.sdata x)
  | .unsafeString, t :: _, [x, n] => (match P.underlying t with | some (.pointer e) => (match tySize P e with | some 1 => some (.ustr e x n) | _ => none) | _ => none)
  | _, _, _ => none

def cOp (op : Op) : Option COp :=
  match op with
  | .move x | .assign x => o1 (opdOf G x) fun a => some (.mv a)
  | .pick c a b => o1 (opdOf G c) fun c => o1 (opdOf G a) fun a => o1 (opdOf G b) fun b => some (.pick c a b)
  | .alloc t => o1 (tyZeroC P t) fun z => some (.alloc z t)
  | .box t x => o1 (opdOf G x) fun x => some (.box t x)
  | .build t ps => (match tyZeroC P t, P.underlying t with
    | some z, some (.struct fs) => bif sized P fs.toList then o1 (partsS P G t ps.toList) fun l => some (.build z l) else none
    | some z, some (.array _ e) => o1 (tySize P e) fun s => o1 (partsA G s ps.toList) fun l => some (.build z l)
    | _, _ => none)
  | .buildSlice t len ps => o1 (tySlice P t) fun es => o1 (tyZeroC P es.1) fun z => o1 (partsA G es.2 ps.toList) fun l => bif Nat.beq z.len es.2 && Nat.ble (Nat.mul len es.2) 100000 && Nat.blt 0 es.2 then some (.bslice (z.rep len) len es.2 es.1 l) else none
  | .load t a => o1 (opdOf G a) fun x => o1 (tyAgg P t) fun g => bif g then o1 (tySize P t) fun n => some (.loads n x) else some (.load x)
  | .store t a x => o1 (opdOf G a) fun a => o1 (opdOf G x) fun x => o1 (tySize P t) fun n => some (.store n a x)
  | .nilCheck x => o1 (opdOf G x) fun x => some (.nilchk x)
  | .binOp op t x y _ => o1 (opdOf G x) fun x' => o1 (opdOf G y) fun y' => (match op with
    | .eql => o1 (eqKOf P t (Region.isConst x || Region.isConst y)) fun k => some (.eq false k x' y')
    | .neq => o1 (eqKOf P t (Region.isConst x || Region.isConst y)) fun k => some (.eq true k x' y')
    | op => some (.bin op x' y'))
  | .unOp op _ x => o1 (opdOf G x) fun x => (match op with | .not => some (.not x) | .neg => some (.neg x) | _ => none)
  | .convert s d x => o1 (opdOf G x) fun x => cConvert P s d x
  | .makeInterface t x => o1 (opdOf G x) fun x => (match P.underlying t with | some (.interface _) => none | some _ => some (.iface t x) | none => none)
  | .makeFunc f a c => o1 (opdsOf G a.toList) fun a => o1 (opdsOf G c.toList) fun c => some (.func f a c)
  | .makeMap t r => (match r with | none => some .mkmap | some (.const (.int _ _)) => (match P.underlying t with | some (.map _ _) => some .mkmap | _ => none) | _ => none)
  | .makeSlice t l c => o1 (tySlice P t) fun es => o1 (tyZeroC P es.1) fun z => o1 (opdOf G l) fun l => o1 (opdOf G c) fun c => bif Nat.beq z.len es.2 && smallBytes P es.1 && Nat.blt 0 es.2 then some (.mkslice z es.2 es.1 l c) else none
  | .slice t x lo hi mx => o1 (opdOf G x) fun x => o1 (opdO G lo) fun lo => o1 (opdO G hi) fun hi => o1 (opdO G mx) fun mx =>
    bif mx.isSome && !hi.isSome then none else (match P.underlying t with
    | some .string => bif mx.isSome then none else some (.slStr x lo hi)
    | some (.slice e) => o1 (tySize P e) fun s => some (.slice s x lo hi mx)
    | some (.array n e) => o1 (tySize P e) fun s => some (.slArr n s x lo hi mx)
    | some (.pointer a) => o1 (tyArr P a) fun q => some (.slArr q.1 q.2.2 x lo hi mx)
    | _ => none)
  | .fieldAddr s x f => o1 (tyField P s f) fun fo => (match tySize P fo.1 with | some (_ + 1) => o1 (opdOf G x) fun x => some (.faddr fo.2 x) | _ => none)
  | .field t x f => o1 (tyField P t f) fun fo => o1 (opdOf G x) fun x => o1 (tyAgg P fo.1) fun g => bif g then o1 (tySize P fo.1) fun n => some (.fields fo.2 n x) else some (.field fo.2 x)
  | .indexAddr t x i => o1 (opdOf G x) fun x => o1 (opdOf G i) fun i => (match P.underlying t with
    | some (.array n e) => o1 (tySize P e) fun s => some (.idxA n s x i)
    | some (.slice e) => o1 (tySize P e) fun s => some (.idxS s x i)
    | _ => none)
  | .index t x i => o1 (opdOf G x) fun x => o1 (opdOf G i) fun i => (match P.underlying t with
    | some .string => some (.idxStr x i)
    | some (.array n e) => o1 (tySize P e) fun s => o1 (tyAgg P e) fun g => bif g then some (.idxVs n s x i) else some (.idxV n s x i)
    | _ => none)
  | .lookup t m k ok => (match P.underlying t with
    | some (.map kt e) => o1 (keyKind P kt) fun q => o1 (tyZero P e) fun z => o1 (opdOf G m) fun m => o1 (opdOf G k) fun k => some (.lookup q z ok m k)
    | _ => none)
  | .mapUpdate t m k v | .insert t m k v => o1 (mapKind P t) fun q => o1 (opdOf G m) fun m => o1 (opdOf G k) fun k => o1 (opdOf G v) fun v => some (.mapupd q m k v)
  | .range t x => o1 (opdOf G x) fun x => (match P.underlying t with | some .string => some (.range true x) | some (.map _ _) => some (.range false x) | _ => none)
  | .next it s => o1 (opdOf G it) fun x => some (.next s x)
  | .typeAssert x _ t ok => o1 (opdOf G x) fun x => (match P.underlying t with
    | some (.interface want) => bif ok then o1 (tyZero P t) fun z => some (.asI want.toList (some z) x) else some (.asI want.toList none x)
    | some _ => bif ok then o1 (tyZero P t) fun z => some (.asC t (some z) x) else some (.asC t none x)
    | none => none)
  | .extract x i => o1 (opdOf G x) fun x => some (.extract i x)
  | .call c => o1 (opdsOf G c.args.toList) fun xs => (match c.callee with
    | .builtin b => cBuiltin P b c.argTypes.toList xs
    | .value f => o1 (opdOf G f) fun f => some (.call (.val f) xs)
    | .invoke r name => o1 (opdOf G r) fun r => some (.call (.inv r name) xs))
  | .defer c => o1 (opdsOf G c.args.toList) fun xs => (match c.callee with
    | .value f => o1 (opdOf G f) fun f => some (.defer f xs)
    | _ => none)
  | _ => none
end types

/-! ### values -/
def opd (tm : T AV) (x : CO) : Option AV := CO.rec (motive := fun _ => Option AV) (fun i => tm.get i) (fun v => some v) x
def opds (tm : T AV) : List CO → Option AV
  | [] => some .nil
  | x :: l => (match opd tm x with | some a => (match opds tm l with | some b => some (.cons a b) | none => none) | none => none)

def kcode (k : IntKind) : Nat := IntKind.rec (motive := fun _ => Nat) 0 1 2 3 4 5 6 7 k
def kmax (k : IntKind) : Nat := IntKind.rec (motive := fun _ => Nat) 127 32767 2147483647 9223372036854775807 255 65535 4294967295 18446744073709551615 k
def kneg (k : IntKind) : Nat := IntKind.rec (motive := fun _ => Nat) 128 32768 2147483648 9223372036854775808 0 0 0 0 k
/-- wrap, quick where nothing is to be done -/
def wrapF (k : IntKind) (n : Int) : Int :=
  Int.rec (motive := fun _ => Int) (fun m => Bool.rec (motive := fun _ => Int) (k.wrap (.ofNat m)) (.ofNat m) (Nat.ble m (kmax k)))
    (fun m => Bool.rec (motive := fun _ => Int) (k.wrap (.negSucc m)) (.negSucc m) (Nat.blt m (kneg k))) n
def ieq (a b : Int) : Bool := Int.rec (motive := fun _ => Bool) (fun m => Int.rec (motive := fun _ => Bool) (fun n => Nat.beq m n) (fun _ => false) b)
  (fun m => Int.rec (motive := fun _ => Bool) (fun _ => false) (fun n => Nat.beq m n) b) a
def ile (a b : Int) : Bool := Int.rec (motive := fun _ => Bool) (fun m => Int.rec (motive := fun _ => Bool) (fun n => Nat.ble m n) (fun _ => false) b)
  (fun m => Int.rec (motive := fun _ => Bool) (fun _ => true) (fun n => Nat.ble n m) b) a
def iadd (a b : Int) : Int := Int.rec (motive := fun _ => Int) (fun m => Int.rec (motive := fun _ => Int) (fun n => .ofNat (Nat.add m n)) (fun n => Int.subNatNat m (Nat.succ n)) b)
  (fun m => Int.rec (motive := fun _ => Int) (fun n => Int.subNatNat n (Nat.succ m)) (fun n => .negSucc (Nat.succ (Nat.add m n))) b) a
def imul (a b : Int) : Int := Int.rec (motive := fun _ => Int) (fun m => Int.rec (motive := fun _ => Int) (fun n => .ofNat (Nat.mul m n)) (fun n => Int.negOfNat (Nat.mul m (Nat.succ n))) b)
  (fun m => Int.rec (motive := fun _ => Int) (fun n => Int.negOfNat (Nat.mul (Nat.succ m) n)) (fun n => .ofNat (Nat.mul (Nat.succ m) (Nat.succ n))) b) a
def ineg (a : Int) : Int := Int.rec (motive := fun _ => Int) (fun m => Int.negOfNat m) (fun m => .ofNat (Nat.succ m)) a

def kbits (k : IntKind) : Nat := match k with | .i8 | .u8 => 8 | .i16 | .u16 => 16 | .i32 | .u32 => 32 | .i64 | .u64 => 64
def nat2 (f : Nat → Nat → Nat) (k : IntKind) (a b : Int) : Option AV :=
  match a, b with | .ofNat x, .ofNat y => bif Nat.ble x (kmax k) && Nat.ble y (kmax k) then some (.int k (.ofNat (f x y))) else none | _, _ => none
def intOp (op : BinOp) (k : IntKind) (a b : Int) : Option AV :=
  match op with
  | .add => some (.int k (wrapF k (iadd a b)))
  | .sub => some (.int k (wrapF k (iadd a (ineg b))))
  | .mul => some (.int k (wrapF k (imul a b)))
  | .quo => (match a, b with | .ofNat x, .ofNat (y + 1) => some (.int k (wrapF k (.ofNat (Nat.div x (y + 1))))) | _, .ofNat 0 => none | _, _ => some (.int k (wrapF k (a.tdiv b))))
  | .rem => (match a, b with | .ofNat x, .ofNat (y + 1) => some (.int k (.ofNat (Nat.mod x (y + 1)))) | _, .ofNat 0 => none | _, _ => some (.int k (a.tmod b)))
  | .eql | .neq => none
  | .lss => some (.bool (!(ile b a)))
  | .leq => some (.bool (ile a b))
  | .gtr => some (.bool (!(ile a b)))
  | .geq => some (.bool (ile b a))
  | .and => nat2 Nat.land k a b
  | .or => nat2 Nat.lor k a b
  | .xor => nat2 Nat.xor k a b
  | .andNot => nat2 (fun x y => Nat.xor x (Nat.land x y)) k a b
  | .shl => (match a, b with | .ofNat x, .ofNat y => bif Nat.ble y (kbits k) then some (.int k (wrapF k (.ofNat (Nat.mul x (Nat.pow 2 y))))) else none | _, _ => none)
  | .shr => (match a, b with | .ofNat x, .ofNat y => bif Nat.ble y (kbits k) then some (.int k (.ofNat (Nat.div x (Nat.pow 2 y)))) else none | _, _ => none)

def strLess : List Nat → List Nat → Bool
  | _, [] => false
  | [], _ :: _ => true
  | a :: x, b :: y => bif Nat.blt a b then true else bif Nat.beq a b then strLess x y else false
def natsEq : List Nat → List Nat → Bool
  | [], [] => true
  | a :: x, b :: y => bif Nat.beq a b then natsEq x y else false
  | _, _ => false

def strOp (op : BinOp) (x y : List Nat) : Option AV :=
  match op with
  | .add => bif Nat.ble (Nat.add x.length y.length) 1000000 then some (.str (x ++ y)) else none
  | .lss => some (.bool (strLess x y))
  | .leq => some (.bool (!strLess y x))
  | .gtr => some (.bool (strLess y x))
  | .geq => some (.bool (!strLess x y))
  | _ => none

/-- is all of it above b? -/
def oge (lo : Option Int) (b : Int) : Bool := match lo with | some l => !(ile l b) | none => false
/-- is all of it below b? -/
def ole (hi : Option Int) (b : Int) : Bool := match hi with | some h => !(ile b h) | none => false
/-- is all of it from b on? -/
def ogE (lo : Option Int) (b : Int) : Bool := match lo with | some l => ile b l | none => false
def olE (hi : Option Int) (b : Int) : Bool := match hi with | some h => ile h b | none => false
def rngOp (op : BinOp) (lo hi : Option Int) (b : Int) : Option AV :=
  match op with
  | .lss => bif ole hi b then some (.bool true) else bif ogE lo b then some (.bool false) else none
  | .leq => bif olE hi b then some (.bool true) else bif oge lo b then some (.bool false) else none
  | .gtr => bif oge lo b then some (.bool true) else bif olE hi b then some (.bool false) else none
  | .geq => bif ogE lo b then some (.bool true) else bif ole hi b then some (.bool false) else none
  | _ => none

/-- equality where nothing is asked -/
def eqSA (k : EqS) (x y : AV) : Option Bool :=
  match k with
  | .int => (match x, y with
    | .int k a, .int j b => bif Nat.beq (kcode k) (kcode j) then some (ieq a b) else none
    | .rng lo hi, .int .i64 b => bif (oge lo b) || (ole hi b) then some false else none
    | _, _ => none)
  | .str => (match x, y with | .str a, .str b => some (natsEq a b) | _, _ => none)
  | .bool => (match x, y with | .bool a, .bool b => some (match a, b with | true, true => true | false, false => true | _, _ => false) | _, _ => none)
  | .ptr => (match x, y with
    | .nilPtr, .nilPtr => some true
    | .nilPtr, .ptr .. | .ptr .., .nilPtr => some false
    | .ptr i o, .ptr j q => bif Nat.beq i j then some (Nat.beq o q) else none
    | _, _ => none)
  | .slice => (match x, y with
    | .nilSl, .nilSl => some true
    | .nilSl, .sl .. | .sl .., .nilSl | .nilSl, .slE | .slE, .nilSl => some false
    | _, _ => none)
  | .map => (match x, y with | .nilMap, .nilMap => some true | .nilMap, .map _ | .map _, .nilMap => some false | _, _ => none)
  | .func => (match x, y with | .nilFn, .nilFn => some true | .nilFn, .fn .. | .fn .., .nilFn => some false | _, _ => none)
  | .iface => (match x, y with | .nilIface, .nilIface => some true | .nilIface, .iface .. | .iface .., .nilIface => some false | _, _ => none)
def eqFA (x y : AV) : List (Nat × EqS) → Option Bool
  | [] => some true
  | (o, k) :: l => (match x.nth o, y.nth o with
    | some a, some b => (match eqSA k a b with | some true => eqFA x y l | r => r)
    | _, _ => none)
def eqKA (k : EqK) (x y : AV) : Option Bool :=
  match k with
  | .s k => eqSA k x y
  | .flat l => (match x, y with | .agg a, .agg b => eqFA a b l | _, _ => none)

def binA (op : BinOp) (x y : AV) : Option AV :=
  match x, y with
  | .int k a, .int j b => (match op with
     | .shl | .shr => intOp op k a b
     | _ => bif Nat.beq (kcode k) (kcode j) then intOp op k a b else none)
  | .str a, .str b => strOp op a b
  | .rng lo hi, .int .i64 b => rngOp op lo hi b
  | .rs k m r, .int j (.ofNat (n + 1)) => (match op with | .rem => bif Nat.beq m (n + 1) && Nat.beq (kcode k) (kcode j) then some (.int k (.ofNat r)) else none | _ => none)
  | _, _ => none

def bytesA : List Nat → AV
  | [] => .nil
  | n :: l => .cons (.int .u8 (.ofNat n)) (bytesA l)
def natsA : AV → Option (List Nat)
  | .nil => some []
  | .cons (.int .u8 (.ofNat n)) t => bif Nat.blt n 256 then (match natsA t with | some l => some (n :: l) | none => none) else none
  | _ => none

def natOf (x : Option AV) : Option Nat := match x with | some (.int _ (.ofNat n)) => some n | _ => none
def lim (tm : T AV) (x : Option CO) (d : Nat) : Option Nat := match x with | some c => natOf (opd tm c) | none => some d

/-! ### cells -/
def getCells (c : T AV) : Nat → Nat → Option AV
  | _, 0 => some .nil
  | i, n + 1 => (match c.get i with
    | some v => (match getCells c (Nat.succ i) n with | some l => some (.cons v l) | none => none)
    | none => none)
def putCells (c : T AV) : Nat → AV → Option (T AV)
  | i, .cons h t => (match c.put i h with | some c' => putCells c' (Nat.succ i) t | none => none)
  | _, _ => some c
termination_by structural _ l => l
def rowOf (l : AV) : Option (T AV) := putCells .e 0 l

/-- a row laid over another one -/
def setL : AV → Nat → AV → Option AV
  | l, 0, .nil => some l
  | .cons _ t, 0, .cons v vs => (match setL t 0 vs with | some t' => some (.cons v t') | none => none)
  | .cons h t, i + 1, vs => (match setL t i vs with | some t' => some (.cons h t') | none => none)
  | _, _, _ => none
def fillL (tm : T AV) : AV → List (Nat × Nat × CO) → Option AV
  | z, [] => some z
  | z, (off, size, x) :: l => (match opd tm x with
    | some v => (match v.cells with
      | vc => bif Nat.beq vc.len size then (match setL z off vc with | some z => fillL tm z l | none => none) else none)
    | none => none)
termination_by structural _ l => l

def cellsAt (H : Hp) (id : Nat) : Option (T AV × Nat × Nat × Nat) := match H.get id with | some (.cells c n sz e) => some (c, n, sz, e) | _ => none
def rdAt (H : Hp) (id off n : Nat) : Option AV := match H.get id with | some (.cells c _ _ _) => getCells c off n | _ => none
/-- is it a value of one cell? -/
def oneA (v : AV) : Bool := match v with | .agg _ | .tup _ | .nil | .cons .. => false | _ => true
def allOne : AV → Bool
  | .cons h t => bif oneA h then allOne t else false
  | _ => true
/-- into a row that is there, below what is sure -/
def wrAt (G : Nat) (H : Hp) (id off : Nat) (l : AV) : Option Hp :=
  match H.get id with
  | some (.cells c n sz e) => bif Nat.ble G id && Nat.ble (Nat.add off l.len) n && allOne l then
      (match putCells c off l with | some c' => H.put id (.cells c' n sz e) | none => none) else none
  | _ => none

def srcA (H : Hp) (size : Nat) (x : AV) : Option (AV × Nat) :=
  match x with
  | .nilSl | .slE => some (.nil, 0)
  | .sl id off len _ => (match rdAt H id off (Nat.mul len size) with | some l => some (l, len) | none => none)
  | .str l => bif Nat.beq size 1 then some (bytesA l, l.length) else none
  | _ => none

inductive R where
  | no
  | v (a : AV) (H : Hp) (nx : Nat)
  | call (f : Nat) (args : AV)
  | defer (f : Nat) (args : AV)

def R.of (H : Hp) (nx : Nat) (x : Option AV) : R := Option.rec (motive := fun _ => R) .no (fun a => .v a H nx) x
def R.up (a : AV) (nx : Nat) (x : Option Hp) : R := match x with | some H => .v a H nx | none => .no
def R.new (a : AV) (H : Hp) (nx : Nat) (o : AO) : R := match H.put nx o with | some H' => .v a H' (Nat.succ nx) | none => .no

def appendA (G : Nat) (H : Hp) (nx size e : Nat) (s x : AV) : R :=
  match srcA H size x with
  | none => .no
  | some (new, m) => bif Nat.ble m 100000 then (
    match s with
    | .nilSl => bif Nat.beq m 0 then .v .nilSl H nx else (match rowOf new with | some c => R.new (.sl nx 0 m none) H nx (.cells c (Nat.mul m size) size e) | none => .no)
    | .slE => bif Nat.beq m 0 then .v .slE H nx else .no
    | .sl id off len cap => bif Nat.ble len 100000 then
      (match H.get id with
      | some (.cells c n sz el) =>
        (match cap with
        | some k => bif Nat.ble (Nat.add len m) k then R.up (.sl id off (Nat.add len m) cap) nx (wrAt G H id (Nat.add off (Nat.mul len size)) new)
            else (match getCells c off (Nat.mul len size) with
              | some old => (match rowOf (old.app new) with
                | some c => R.new (.sl nx 0 (Nat.add len m) none) H nx (.cells c (Nat.mul (Nat.add len m) size) size e)
                | none => .no)
              | none => .no)
        | none => bif Nat.beq sz size then (bif Nat.ble (Nat.add off (Nat.mul (Nat.add len m) size)) n then R.up (.sl id off (Nat.add len m) cap) nx (wrAt G H id (Nat.add off (Nat.mul len size)) new)
            else bif Nat.ble G id && allOne new && Nat.beq el e then (match H.put id .dead with
              | some H' => bif Nat.beq off 0 && Nat.beq (Nat.mul len size) n then (match putCells c n new with
                  | some c => R.new (.sl nx 0 (Nat.add len m) none) H' nx (.cells c (Nat.mul (Nat.add len m) size) size e)
                  | none => .no)
                else (match getCells c off (Nat.mul len size) with
                  | some old => (match rowOf (old.app new) with
                    | some c => R.new (.sl nx 0 (Nat.add len m) none) H' nx (.cells c (Nat.mul (Nat.add len m) size) size e)
                    | none => .no)
                  | none => .no)
              | none => .no)
            else .no) else .no)
      | _ => .no) else .no
    | _ => .no) else .no

def findE (q : EqS) (k : AV) : List Ent → Option (Option AV)
  | [] => some none
  | e :: l => (match eqSA q k e.key with | some true => some (some e.val) | some false => findE q k l | none => none)
def updE (q : EqS) (k v : AV) : List Ent → Option (List Ent)
  | [] => none
  | e :: l => (match eqSA q k e.key with | some true => some (⟨k, v, e.born⟩ :: l) | some false => (match updE q k v l with | some l' => some (e :: l') | none => none) | none => none)
def delE (q : EqS) (k : AV) : List Ent → Option (List Ent)
  | [] => some []
  | e :: l => (match eqSA q k e.key with | some true => some l | some false => (match delE q k l with | some l' => some (e :: l') | none => none) | none => none)

def mmA (mx : Bool) : AV → AV → Option AV
  | v, .nil => some v
  | .int k a, .cons (.int _ b) l => mmA mx (.int k (bif (bif mx then !(ile b a) else !(ile a b)) then b else a)) l
  | _, _ => none
termination_by structural _ l => l

def cmpL : List Nat → List Nat → Int
  | [], [] => 0
  | [], _ :: _ => -1
  | _ :: _, [] => 1
  | a :: x, b :: y => bif Nat.blt a b then -1 else bif Nat.blt b a then 1 else cmpL x y
def idxL (c : Nat) : List Nat → Nat → Int
  | [], _ => -1
  | a :: l, i => bif Nat.beq a c then .ofNat i else idxL c l (Nat.succ i)

inductive Ext where
  | no | index | compare | overlaps | same | makeNoZero (e : Nat)

def extOf (P : Program) (fn : Func) : Ext :=
  match fn.name with
  | "internal/bytealg.IndexByteString" | "internal/bytealg.IndexByte" => .index
  | "internal/bytealg.Compare" => .compare
  | "internal/abi.NoEscape" => .same
  | "internal/bytealg.MakeNoZero" => (match fn.resultTypes[0]? with | some t => (match P.underlying t with | some (.slice e) => .makeNoZero e | _ => .no) | none => .no)
  | _ => .no

def bytesOfA (H : Hp) (x : AV) : Option (List Nat) := match x with | .str l => some l | x => (match srcA H 1 x with | some (l, _) => natsA l | none => none)

def extA (x : Ext) (args : AV) (H : Hp) (nx : Nat) : R :=
  match x, args with
  | .index, .cons a (.cons (.int .u8 (.ofNat c)) .nil) => (match bytesOfA H a with | some l => bif Nat.blt c 256 then .v (.int .i64 (idxL c l 0)) H nx else .no | none => .no)
  | .compare, .cons a (.cons b .nil) => (match bytesOfA H a, bytesOfA H b with | some l, some c => .v (.int .i64 (cmpL l c)) H nx | _, _ => .no)
  | .same, .cons a .nil => .v a H nx
  | .makeNoZero e, .cons (.int .i64 (.ofNat n)) .nil => bif Nat.ble n 100000 then R.new (.sl nx 0 n none) H nx (.cells (T.rep .unk n n) n 1 e) else .no
  | _, _ => .no

def methodOf (P : Program) (t : Nat) (name : String) : Option Nat :=
  match P.info? t with
  | some i => (match i.methods.find? (·.name == name) with
    | some m => (match m.path.toList, m.func, P.underlying t with
      | [], some (f, true), some (.pointer _) => some f
      | [], some (_, false), some (.pointer _) => none
      | [], some (f, false), some _ => some f
      | _, _, _ => none)
    | none => none)
  | none => none
def missing (P : Program) (want : List (String × Nat)) (t : Nat) : Option Bool :=
  match P.info? t with
  | some i => some (want.any fun (name, sig) => !i.methods.any fun m => m.name == name && m.sig == sig)
  | none => none

def pairA (a b : AV) : AV := .tup (.cons a (.cons b .nil))

/-! ### operations: what is reckoned alone -/
def pureA (P : Program) (co : COp) (tm : T AV) : Option AV :=
  match co with
  | .mv x => opd tm x
  | .pick c a b => (match opd tm c with | some (.bool true) => opd tm a | some (.bool false) => opd tm b | _ => none)
  | .bin op x y => (match opd tm x with | some a => (match opd tm y with | some b => binA op a b | none => none) | none => none)
  | .eq ng k x y => (match opd tm x with | some a => (match opd tm y with | some b => (match eqKA k a b with | some r => some (.bool (bif ng then !r else r)) | none => none) | none => none) | none => none)
  | .not x => (match opd tm x with | some (.bool b) => some (.bool (!b)) | _ => none)
  | .neg x => (match opd tm x with | some (.int k n) => some (.int k (wrapF k (ineg n))) | _ => none)
  | .toInt k x => (match opd tm x with | some (.int _ n) => some (.int k (wrapF k n)) | some (.rs _ m r) => (match k with | .i64 => some (.rs k m r) | _ => none) | _ => none)
  | .nilchk x => (match opd tm x with | some (.ptr i o) => some (.ptr i o) | some (.fn (.func f) a c) => some (.fn (.func f) a c) | some (.iface t v) => some (.iface t v) | _ => none)
  | .iface t x => (match opd tm x with | some v => some (.iface t v) | none => none)
  | .func f a c => (match opds tm a, opds tm c with | some a, some c => some (.fn f a c) | _, _ => none)
  | .faddr off x => (match opd tm x with | some (.ptr id o) => some (.ptr id (Nat.add o off)) | _ => none)
  | .field off x => (match opd tm x with | some (.agg l) => l.nth off | _ => none)
  | .fields off n x => (match opd tm x with | some (.agg l) => (match l.part off n with | some l => some (.agg l) | none => none) | _ => none)
  | .idxA n s x i => (match opd tm x, natOf (opd tm i) with | some (.ptr id o), some i => bif Nat.blt i n then some (.ptr id (Nat.add o (Nat.mul i s))) else none | _, _ => none)
  | .idxS s x i => (match opd tm x, natOf (opd tm i) with | some (.sl id o len _), some i => bif Nat.blt i len then some (.ptr id (Nat.add o (Nat.mul i s))) else none | _, _ => none)
  | .idxStr x i => (match opd tm x, natOf (opd tm i) with | some (.str l), some i => (match l[i]? with | some c => some (.int .u8 (.ofNat c)) | none => none) | _, _ => none)
  | .idxV n s x i => (match opd tm x, natOf (opd tm i) with | some (.agg l), some i => bif Nat.blt i n then l.nth (Nat.mul i s) else none | _, _ => none)
  | .idxVs n s x i => (match opd tm x, natOf (opd tm i) with | some (.agg l), some i => bif Nat.blt i n then (match l.part (Nat.mul i s) s with | some l => some (.agg l) | none => none) else none | _, _ => none)
  | .build z ps => (match fillL tm z ps with | some l => some (.agg l) | none => none)
  | .slStr x lo hi => (match opd tm x with
    | some (.str l) => (match lim tm lo 0, lim tm hi l.length with
      | some a, some b => bif Nat.ble a b && Nat.ble b l.length then some (.str ((l.take b).drop a)) else none
      | _, _ => none)
    | _ => none)
  | .slArr n s x lo hi mx => (match opd tm x with
    | some (.ptr id off) => (match lim tm lo 0, lim tm hi n, lim tm mx n with
      | some a, some b, some m => bif Nat.ble a b && Nat.ble b m && Nat.ble m n then some (.sl id (bif Nat.beq m a then off else Nat.add off (Nat.mul a s)) (Nat.sub b a) (some (Nat.sub m a))) else none
      | _, _, _ => none)
    | _ => none)
  | .extract i x => (match opd tm x with | some (.tup l) => l.nth i | _ => none)
  | .asC t z x => (match opd tm x with
    | some (.iface u v) => bif Nat.beq u t then (match z with | some _ => some (pairA v (.bool true)) | none => some v)
       else (match z with | some z => some (pairA z (.bool false)) | none => none)
    | some .nilIface => (match z with | some z => some (pairA z (.bool false)) | none => none)
    | _ => none)
  | .asI want z x => (match opd tm x with
    | some (.iface u v) => (match missing P want u with
      | some false => (match z with | some _ => some (pairA (.iface u v) (.bool true)) | none => some (.iface u v))
      | some true => (match z with | some z => some (pairA z (.bool false)) | none => none)
      | none => none)
    | some .nilIface => (match z with | some z => some (pairA z (.bool false)) | none => none)
    | _ => none)
  | _ => none

/-- what only looks at memory -/
def readA (P : Program) (co : COp) (tm : T AV) (H : Hp) : Option AV :=
  match co with
  | .load x => (match opd tm x with | some (.ptr id off) => (match H.get id with | some (.cells c _ _ _) => c.get off | _ => none) | _ => none)
  | .loads n x => (match opd tm x with | some (.ptr id off) => (match rdAt H id off n with | some l => some (.agg l) | none => none) | _ => none)
  | .slice s x lo hi mx => (match opd tm x with
    | some .nilSl => (match lim tm lo 0, lim tm hi 0, lim tm mx 0 with | some 0, some 0, some 0 => some .nilSl | _, _, _ => none)
    | some .slE => (match lim tm lo 0, lim tm hi 0, mx with | some 0, some 0, none => some .slE | _, _, _ => none)
    | some (.sl id off len (some k)) => (match lim tm lo 0, lim tm hi len, lim tm mx k with
      | some a, some b, some m => bif Nat.ble a b && Nat.ble b m && Nat.ble m k then some (.sl id (bif Nat.beq m a then off else Nat.add off (Nat.mul a s)) (Nat.sub b a) (some (Nat.sub m a))) else none
      | _, _, _ => none)
    | some (.sl id off len none) => (match H.get id, lim tm lo 0, lim tm hi len with
      | some (.cells _ n sz _), some a, some b => bif Nat.beq sz s && Nat.ble a b && Nat.blt 0 sz then (match mx with
          | none => bif Nat.ble (Nat.add off (Nat.mul b s)) n then
              bif Nat.beq a 0 then some (.sl id off b none)
              else bif Nat.beq (Nat.add off (Nat.mul a s)) n then some .slE else some (.sl id (Nat.add off (Nat.mul a s)) (Nat.sub b a) none)
            else none
          | some m => (match natOf (opd tm m) with
            | some m => bif Nat.ble b m && Nat.ble (Nat.add off (Nat.mul m s)) n then some (.sl id (bif Nat.beq m a then off else Nat.add off (Nat.mul a s)) (Nat.sub b a) (some (Nat.sub m a))) else none
            | none => none)) else none
      | _, _, _ => none)
    | _ => none)
  | .lenC n _ => some (.int .i64 (.ofNat n))
  | .len k x => (match k, opd tm x with
    | .str, some (.str l) => some (.int .i64 (.ofNat l.length))
    | .slice, some .nilSl | .slice, some .slE => some (.int .i64 (.ofNat 0))
    | .slice, some (.sl _ _ n _) => some (.int .i64 (.ofNat n))
    | .map, some .nilMap => some (.int .i64 (.ofNat 0))
    | .map, some (.map id) => (match H.get id with | some (.map es _) => some (.int .i64 (.ofNat es.length)) | _ => none)
    | _, _ => none)
  | .cap x => (match opd tm x with
    | some .nilSl => some (.int .i64 (.ofNat 0))
    | some (.sl _ _ _ (some n)) => some (.int .i64 (.ofNat n))
    | some (.sl id off _ none) => (match H.get id with | some (.cells _ n sz _) => bif Nat.blt off n && Nat.blt 0 sz then some (.rng (some 1) none) else none | _ => none)
    | _ => none)
  | .lookup q z ok m k => (match opd tm m, opd tm k with
    | some m, some k => (match (match m with
        | .nilMap => some none
        | .map id => (match H.get id with | some (.map es _) => findE q k es | _ => none)
        | _ => none) with
      | some (some v) => some (bif ok then pairA v (.bool true) else v)
      | some none => some (bif ok then pairA z (.bool false) else z)
      | none => none)
    | _, _ => none)
  | .toStr x => (match opd tm x with
    | some (.str l) => some (.str l)
    | some (.int _ (.ofNat n)) => bif Nat.blt n 128 then some (.str [n]) else none
    | _ => none)
  | .bytesStr x => (match opd tm x with
    | some .nilSl => some (.str [])
    | some (.sl id off len _) => (match rdAt H id off len with | some l => (match natsA l with | some l => some (.str l) | none => none) | none => none)
    | _ => none)
  | .toUp x => (match opd tm x with
    | some .nilPtr => some .nilPtr
    | some (.ptr id off) => (match H.get id with | some (.cells _ n 0 _) => bif Nat.blt off n then some (.ptr id off) else none | _ => none)
    | _ => none)
  | .fromUp u s x => (match opd tm x with
    | some .nilPtr => some .nilPtr
    | some (.ptr id 0) => (match H.get id with | some (.cells _ n 0 e) => bif Nat.beq e u && Nat.ble s n then some (.ptr id 0) else none | _ => none)
    | _ => none)
  | .sdata x => (match opd tm x with
    | some .nilSl => some .nilPtr
    | some (.sl id off _ none) => (match H.get id with | some (.cells _ n sz _) => bif Nat.blt off n && Nat.blt 0 sz then some (.ptr id off) else none | _ => none)
    | some (.sl id off _ (some (_ + 1))) => some (.ptr id off)
    | _ => none)
  | _ => none

/-- what makes one block -/
def newA (co : COp) (tm : T AV) (nx : Nat) : Option (AV × AO) :=
  match co with
  | .alloc z e => (match rowOf z with | some c => some (.ptr nx 0, .cells c z.len 0 e) | none => none)
  | .box e x => (match opd tm x with | some v => (match v.cells with | z => (match rowOf z with | some c => some (.ptr nx 0, .cells c z.len 0 e) | none => none)) | none => none)
  | .bslice z len _ e ps => (match fillL tm z ps with | some l => (match rowOf l with | some c => some (.sl nx 0 len (some len), .cells c l.len 0 e) | none => none) | none => none)
  | .mkmap => some (.map nx, .map [] 0)
  | .mkslice z s e l c => (match natOf (opd tm l), natOf (opd tm c) with
    | some l, some c => bif Nat.ble l c && Nat.ble c 100000 then (match z with
       | .cons z1 .nil => some (.sl nx 0 l (some c), .cells (T.rep z1 c c) c 0 e)
       | z => (match rowOf (z.rep c) with | some t => some (.sl nx 0 l (some c), .cells t (Nat.mul c s) 0 e) | none => none)) else none
    | _, _ => none)
  | .toBytes e x => (match opd tm x with | some (.str l) => (match rowOf (bytesA l) with | some c => some (.sl nx 0 l.length none, .cells c l.length 1 e) | none => none) | _ => none)
  | _ => none

/-- what acts -/
def heavyA (P : Program) (G : Nat) (co : COp) (tm : T AV) (H : Hp) (nx : Nat) : R :=
  match co with
  | .store n a x => (match opd tm a, opd tm x with
    | some (.ptr id off), some v => (match v.cells with | vc => bif Nat.beq vc.len n then R.up undefA nx (wrAt G H id off vc) else .no)
    | _, _ => .no)
  | .mapupd q m k v => (match opd tm m, opd tm k, opd tm v with
    | some (.map id), some k, some v => (match H.get id with
      | some (.map es c) => bif Nat.ble G id then (match findE q k es with
        | some (some _) => (match updE q k v es with | some es' => R.up undefA nx (H.put id (.map es' c)) | none => .no)
        | some none => R.up undefA nx (H.put id (.map (es ++ [⟨k, v, c⟩]) (Nat.succ c)))
        | none => .no) else .no
      | _ => .no)
    | _, _, _ => .no)
  | .range true x => (match opd tm x with | some (.str l) => R.new (.ptr nx 0) H nx (.siter l 0) | _ => .no)
  | .range false x => (match opd tm x with
    | some .nilMap => R.new (.ptr nx 0) H nx (.iter none 0 [] 0)
    | some (.map id) => (match H.get id with | some (.map _ c) => R.new (.ptr nx 0) H nx (.iter (some id) c [] c) | _ => .no)
    | _ => .no)
  | .next true x => (match opd tm x with
    | some (.ptr id 0) => (match H.get id with
      | some (.siter l pos) => (match l[pos]? with
        | none => .v (.tup (.cons (.bool false) .nil)) H nx
        | some c => bif Nat.blt c 128 && Nat.ble G id then R.up (.tup (.cons (.bool true) (.cons (.int .i64 (.ofNat pos)) (.cons (.int .i32 (.ofNat c)) .nil)))) nx (H.put id (.siter l (Nat.succ pos))) else .no)
      | _ => .no)
    | _ => .no)
  | .next false x => (match opd tm x with
    | some (.ptr id 0) => (match H.get id with
      | some (.iter none _ _ _) => .v (.tup (.cons (.bool false) .nil)) H nx
      | some (.iter (some m) since seen last) => (match H.get m with
        | some (.map es clock) => bif !seen.isEmpty && !es.isEmpty && es.all (fun e => Nat.ble last e.born) then .no else (match es.filter fun e => !seen.contains e.born with
           | [] => .v (.tup (.cons (.bool false) .nil)) H nx
           | [e] => bif Nat.blt e.born since && Nat.ble G id then R.up (.tup (.cons (.bool true) (.cons e.key (.cons e.val .nil)))) nx (H.put id (.iter (some m) since (seen ++ [e.born]) clock)) else .no
           | _ => .no)
        | _ => .no)
      | _ => .no)
    | _ => .no)
  | .append s e x y => (match opd tm x, opd tm y with | some a, some b => appendA G H nx s e a b | _, _ => .no)
  | .copy s d x => (match opd tm d, opd tm x with
    | some d, some x => (match srcA H s x with
      | some (l, m) => (match d with
        | .nilSl | .slE => .v (.int .i64 (.ofNat 0)) H nx
        | .sl id off len _ => (match Nat.min m len with
          | n => (match l.part 0 (Nat.mul n s) with | some l => R.up (.int .i64 (.ofNat n)) nx (wrAt G H id off l) | none => .no))
        | _ => .no)
      | none => .no)
    | _, _ => .no)
  | .delete q m k => (match opd tm m, opd tm k with
    | some .nilMap, some k => .v undefA H nx
    | some (.map id), some k => (match H.get id with
      | some (.map es c) => bif Nat.ble G id then (match delE q k es with | some es' => R.up undefA nx (H.put id (.map es' c)) | none => .no) else .no
      | _ => .no)
    | _, _ => .no)
  | .minmax mx xs => (match opds tm xs with | some (.cons x l) => R.of H nx (mmA mx x l) | _ => .no)
  | .ustr e x n => (match opd tm x, natOf (opd tm n) with
    | some .nilPtr, some 0 => .v (.str []) H nx
    | some (.ptr id off), some (n + 1) => (match H.get id with
      | some (.cells c _ _ el) => (match getCells c off (n + 1) with
        | some l => (match natsA l, H.put id .dead with | some l, some H' => bif Nat.ble G id && Nat.beq el e && Nat.ble n 100000 then .v (.str l) H' nx else .no | _, _ => .no)
        | none => .no)
      | _ => .no)
    | _, _ => .no)
  | .call (.val f) xs => (match opd tm f, opds tm xs with
    | some (.fn (.func f) first cap), some args => .call f (first.app (args.app cap))
    | _, _ => .no)
  | .call (.inv r name) xs => (match opd tm r, opds tm xs with
    | some (.iface t v), some args => (match methodOf P t name with | some f => .call f (.cons v args) | none => .no)
    | _, _ => .no)
  | .defer f xs => (match opd tm f, opds tm xs with
    | some (.fn (.func f) first cap), some args => .defer f (first.app (args.app cap))
    | _, _ => .no)
  | _ => .no

/-- which: 0 alone, 1 looks, 2 makes, 3 acts -/
def kind (co : COp) : Nat :=
  match co with
  | .load .. | .loads .. | .slice .. | .len .. | .lenC .. | .cap .. | .lookup .. | .toStr .. | .bytesStr .. | .toUp .. | .fromUp .. | .sdata .. => 1
  | .alloc .. | .box .. | .bslice .. | .mkmap | .mkslice .. | .toBytes .. => 2
  | .store .. | .mapupd .. | .range .. | .next .. | .append ..  | .copy .. | .delete .. | .ustr .. | .call .. | .defer .. | .minmax .. => 3
  | _ => 0

/-! ### code -/
structure CE where
  dst : Option Nat
  guard : Option (Nat × Bool)
  kd : Nat
  co : COp
  /-- what was read ahead, and is to be read alike behind this one -/
  chk : List (Option (Nat × Bool) × COp × Nat)

inductive CC where
  | bad
  | skip
  | ret
  | exit (id : Nat)
  | seq (a b : CC)
  | cond (c : CO) (a b : CC)
  | block (id : Nat) (b : CC)
  | loop (b : CC)
  | ops (l : List CE)

def cGuard (ops : Array Oper) (g : Option (Nat × Bool)) : Option (Option (Nat × Bool)) :=
  match g with
  | none => some none
  | some (j, want) => (match ops[j]? with | some o => (match o.dst with | some d => some (some (d, want)) | none => none) | none => none)

def cOper (P : Program) (G : Nat) (N : Nat) (ops : Array Oper) (o : Oper) : Option CE :=
  match cOp P G o.op, cGuard ops o.guard with
  | some co, some g => (match o.dst with
    | none => some ⟨none, g, kind co, co, []⟩
    | some d => bif Nat.blt d N then some ⟨some d, g, kind co, co, []⟩ else none)
  | _, _ => none

def cOpers (P : Program) (G : Nat) (N : Nat) (ops : Array Oper) : List Oper → Option (List CE)
  | [] => some []
  | o :: l => (match cOper P G N ops o, cOpers P G N ops l with | some a, some b => some (a :: b) | _, _ => none)

/-! the drawn order -/
def anyEdges (o : Oper) : List Nat := o.after.toList.filterMap fun e => bif Region.binds .any e then some e.on else none

/-! the names that an operation looks at -/
def CO.see : CO → List Nat | .t i => [i] | .c _ => []
def seeO : Option CO → List Nat | none => [] | some x => x.see
def seeP : List (Nat × Nat × CO) → List Nat | [] => [] | x :: l => x.2.2.see ++ seeP l
def seeL : List CO → List Nat | [] => [] | x :: l => x.see ++ seeL l
def seeC : Cal → List Nat | .val x => x.see | .inv x _ => x.see
def COp.sees : COp → List Nat
  | .mv x | .not x | .neg x | .toInt _ x | .nilchk x | .iface _ x | .faddr _ x | .field _ x | .fields _ _ x | .extract _ x | .asC _ _ x | .asI _ _ x => x.see
  | .load x | .loads _ x | .len _ x | .lenC _ x | .cap x | .toStr x | .bytesStr x | .toUp x | .fromUp _ _ x | .sdata x | .box _ x | .toBytes _ x | .range _ x | .next _ x => x.see
  | .pick c a b => c.see ++ (a.see ++ b.see)
  | .bin _ x y | .eq _ _ x y => x.see ++ y.see
  | .func _ a c => seeL a ++ seeL c
  | .idxA _ _ x i | .idxS _ x i | .idxStr x i | .idxV _ _ x i | .idxVs _ _ x i => x.see ++ i.see
  | .build _ ps => seeP ps
  | .slStr x lo hi => x.see ++ (seeO lo ++ seeO hi)
  | .slArr _ _ x lo hi mx => x.see ++ (seeO lo ++ (seeO hi ++ seeO mx))
  | .slice _ x lo hi mx => x.see ++ (seeO lo ++ (seeO hi ++ seeO mx))
  | .lookup _ _ _ m k => m.see ++ k.see
  | .alloc _ _ | .mkmap => []
  | .bslice _ _ _ _ ps => seeP ps
  | .mkslice _ _ _ l c => l.see ++ c.see
  | .store _ a x => a.see ++ x.see
  | .mapupd _ m k v => m.see ++ (k.see ++ v.see)
  | .append _ _ x y | .copy _ x y => x.see ++ y.see
  | .delete _ m k => m.see ++ k.see
  | .minmax _ xs => seeL xs
  | .ustr _ x n => x.see ++ n.see
  | .call c xs => seeC c ++ seeL xs
  | .defer c xs => c.see ++ seeL xs
def seeG : Option (Nat × Bool) → List Nat | none => [] | some g => [g.1]
def CE.sees (c : CE) : List Nat := seeG c.guard ++ c.co.sees
def hvy (c : CE) : Bool := Nat.beq c.kd 3

/-- sets of places, as bits -/
def bit (s i : Nat) : Bool := Nat.beq (Nat.mod (Nat.div s (Nat.pow 2 i)) 2) 1

/-- an operation that is placed: its place, itself, all that stand ahead of it -/
structure Pd where
  i : Nat
  ce : CE
  pre : Nat
  hv : Bool
/-- an operation that is to be placed: does it stand in the row of those that act? -/
structure Pl where
  i : Nat
  ed : List Nat
  ce : CE
  hv : Bool

def bz (c t e : Bool) : Bool := Bool.rec (motive := fun _ => Bool) e t c
def bn (c : Bool) : Bool := Bool.rec (motive := fun _ => Bool) true false c
def bitsOf (l : List Nat) : Nat := List.rec (motive := fun _ => Nat) 0 (fun d _ ih => Nat.lor (Nat.pow 2 d) ih) l
def dBit (d : Option Nat) : Nat := Option.rec (motive := fun _ => Nat) 0 (fun d => Nat.pow 2 d) d
/-- have they none in common? -/
def apartB (a b : Nat) : Bool := Nat.beq (Nat.land a b) 0
def CE.sb (c : CE) : Nat := bitsOf c.sees
def CE.db (c : CE) : Nat := dBit c.dst

/-- all that stand ahead: what is placed last is looked at first -/
def preGo (pl : List Pd) : Nat → Nat := List.rec (motive := fun _ => Nat → Nat) (fun s => s) (fun p _ ih s => ih (Bool.rec (motive := fun _ => Nat) s (Nat.lor s p.pre) (bit s p.i))) pl
def preOf (pl : List Pd) (ed : List Nat) : Nat := preGo pl (bitsOf ed)
def lastHv (pl : List Pd) : Option Nat := List.rec (motive := fun _ => Option Nat) none (fun p _ ih => Bool.rec (motive := fun _ => Option Nat) ih (some p.i) p.hv) pl
def dnOf (pl : List Pd) : Nat := List.rec (motive := fun _ => Nat) 0 (fun p _ ih => Nat.lor (Nat.pow 2 p.i) ih) pl

/-- may x stand behind p? -/
def okOne (p : Pd) (x : Pl) (pre sx dx : Nat) : Bool :=
  bz (bz (apartB sx p.ce.db) true (bit pre p.i)) (bz (apartB p.ce.db dx) (bz p.hv true (bz (apartB p.ce.sb dx) true (bz x.hv (bit pre p.i) false))) false) false
def okAll (pl : List Pd) (x : Pl) (pre sx dx : Nat) : Bool := List.rec (motive := fun _ => Bool) true (fun p _ ih => bz (okOne p x pre sx dx) ih false) pl
def hasLast (l : Option Nat) (pre : Nat) : Bool := Option.rec (motive := fun _ => Bool) true (fun k => bit pre k) l
def isSomeN (d : Option Nat) : Bool := Option.rec (motive := fun _ => Bool) false (fun _ => true) d

/-- may it be placed here? -/
def okPl (pl : List Pd) (x : Pl) (pre : Nat) : Bool :=
  bz (bit (dnOf pl) x.i) false (bz (Nat.beq (Nat.land (bitsOf x.ed) (dnOf pl)) (bitsOf x.ed)) (bz (hasLast (lastHv pl) pre) (bz (okAll pl x pre x.ce.sb x.ce.db)
    (bz (bz x.hv true (apartB x.ce.sb x.ce.db)) (bz (bz (Nat.beq x.ce.kd 1) (isSomeN x.ce.dst) true) (bz x.hv (bn (Nat.beq x.ce.kd 2)) (bn (Nat.beq x.ce.kd 3))) false) false) false) false) false)

/-- what is read again behind one that acts -/
def chkOf (pre : Nat) (pl : List Pd) : List (Option (Nat × Bool) × COp × Nat) :=
  List.rec (motive := fun _ => List (Option (Nat × Bool) × COp × Nat)) [] (fun q _ ih => Bool.rec (motive := fun _ => List (Option (Nat × Bool) × COp × Nat)) ih
    (Option.rec (motive := fun _ => List (Option (Nat × Bool) × COp × Nat)) ih (fun d => (q.ce.guard, q.ce.co, d) :: ih) q.ce.dst) (bz (Nat.beq q.ce.kd 1) (bn (bit pre q.i)) false)) pl
def withChk (pl : List Pd) (pre : Nat) (c : CE) : CE := Bool.rec (motive := fun _ => CE) c { c with chk := chkOf pre pl } (hvy c)

/-- those that act stand in one row; the others as early as may be -/
def draws : List Pd → List Pl → Option (List CE)
  | _, [] => some []
  | pl, x :: rest => (match preOf pl x.ed with
    | pre => bif okPl pl x pre then (match draws (⟨x.i, x.ce, pre, x.hv⟩ :: pl) rest with | some l => some (withChk pl pre x.ce :: l) | none => none) else none)
termination_by structural _ l => l

/-- the order: found, not proved: a ready one that doesn't act, or else one that acts -/
def pickN (l : List (Nat × Nat × Bool)) (done : Nat) : Option Nat → Option Nat :=
  List.rec (motive := fun _ => Option Nat → Option Nat) (fun h => h) (fun x _ ih h => Bool.rec (motive := fun _ => Option Nat) (ih h)
    (Bool.rec (motive := fun _ => Option Nat) (some x.1) (Option.rec (motive := fun _ => Option Nat) (ih (some x.1)) (fun _ => ih h) h) x.2.2)
    (bz (bit done x.1) false (Nat.beq (Nat.land x.2.1 done) x.2.1))) l
def ordGo (l : List (Nat × Nat × Bool)) (n : Nat) : Nat → List Nat :=
  Nat.rec (motive := fun _ => Nat → List Nat) (fun _ => []) (fun _ ih done => Option.rec (motive := fun _ => List Nat) [] (fun i => i :: ih (Nat.lor done (Nat.pow 2 i))) (pickN l done none)) n
/-- it acts, or writes what one ahead of it looks at, or itself -/
def seenB (all : List CE) : Nat → Nat := List.rec (motive := fun _ => Nat → Nat) (fun _ => 0) (fun c _ ih n => Nat.rec (motive := fun _ => Nat) c.sb (fun m _ => Nat.lor c.sb (ih m)) n) all
def flag (all : List CE) (n : Nat) (c : CE) : Bool := bz (hvy c) true (bn (apartB (seenB all n) c.db))
def numb (all : List CE) : Nat → List Oper → List CE → List (Nat × Nat × Bool)
  | i, o :: l, c :: m => (i, bitsOf (anyEdges o), flag all i c) :: numb all (Nat.succ i) l m
  | _, _, _ => []

def mkPls (P : Program) (G : Nat) (N : Nat) (ops : Array Oper) (all : List CE) : List Nat → Option (List Pl)
  | [] => some []
  | i :: l => (match ops[i]? with
    | some o => (match cOper P G N ops o, mkPls P G N ops all l with | some c, some r => some (⟨i, anyEdges o, c, flag all i c⟩ :: r) | _, _ => none)
    | none => none)

def cDraw (P : Program) (G : Nat) (N : Nat) (ops : Array Oper) : Option (List CE) :=
  match cOpers P G N ops ops.toList with
  | none => none
  | some ces => match ordGo (numb ces 0 ops.toList ces) ops.size 0 with
    | ix => bif Nat.beq ix.length ops.size && (match bitsOf ix with | b => (List.range ops.size).all (bit b)) then (match mkPls P G N ops ces ix with | some ps => draws [] ps | none => none) else none

def cCode (P : Program) (G : Nat) (N : Nat) : Code → CC
  | .skip => .skip
  | .ret => .ret
  | .exit id => .exit id
  | .label _ => .skip
  | .seq a b => .seq (cCode P G N a) (cCode P G N b)
  | .cond c a b => (match opdOf G c with | some c => .cond c (cCode P G N a) (cCode P G N b) | none => .bad)
  | .block id b => .block id (cCode P G N b)
  | .loop b => .loop (cCode P G N b)
  | .scope b => cCode P G N b
  | .region _ ops draw => bif draw then (match cDraw P G N ops with | some l => .ops l | none => .bad) else (match cOpers P G N ops ops.toList with | some l => .ops l | none => .bad)
  | _ => .bad


/-! the same, the types looked up in a tree: quicker in the kernel -/
def treeOf : List TypeInfo → Nat → T TypeInfo → Option (T TypeInfo)
  | [], _, t => some t
  | x :: l, i, t => (match t.put i x with | some t' => treeOf l (Nat.succ i) t' | none => none)
def tyTree (P : Program) : T TypeInfo := match treeOf P.types.toList 0 .e with | some t => t | none => .e
def infoF (P : Program) (t : Nat) : Option TypeInfo := match (tyTree P).get t with | some i => some i | none => P.info? t
def undF (P : Program) (t : Nat) : Option TypeDesc :=
  match infoF P t with
  | some i => (match i.desc with
    | .named _ u => (match infoF P u with | some j => some j.desc | none => none)
    | d => some d)
  | none => none
section typesY
variable (P : Program) (G : Nat)
def tySizeY (t : Nat) : Option Nat := match infoF P t with | some i => some i.size | none => none
def tyAggY (t : Nat) : Option Bool := match undF P t with | some (.struct _) | some (.array _ _) => some true | some _ => some false | none => none
def tyZeroY (t : Nat) : Option AV := match infoF P t with | some i => (match i.zero with | some v => conv 3000 v | none => none) | none => none
def smallBytesY (t : Nat) : Bool := match infoF P t with | some i => Nat.ble i.bytes 1000000 | none => false
def tyZeroCY (t : Nat) : Option AV := match tyZeroY P t with | some z => some z.cells | none => none
def tyFieldY (s f : Nat) : Option (Nat × Nat) := match undF P s with | some (.struct fs) => (match fs[f]? with | some x => some (x.type, x.offset) | none => none) | _ => none
def tySliceY (t : Nat) : Option (Nat × Nat) := match undF P t with | some (.slice e) => (match tySizeY P e with | some s => some (e, s) | none => none) | _ => none
def tyArrY (t : Nat) : Option (Nat × Nat × Nat) := match undF P t with | some (.array n e) => (match tySizeY P e with | some s => some (n, e, s) | none => none) | _ => none
def sizedY : List Field → Bool
  | [] => true
  | f :: l => (match tySizeY P f.type with | some _ => sizedY l | none => false)
def partsSY (t : Nat) : List (Nat × Operand) → Option (List (Nat × Nat × CO))
  | [] => some []
  | (i, x) :: l => (match tyFieldY P t i with
    | some (ft, off) => (match tySizeY P ft, opdOf G x, partsSY t l with | some s, some a, some b => some ((off, s, a) :: b) | _, _, _ => none)
    | none => none)
def partsAY (G : Nat) (s : Nat) : List (Nat × Operand) → Option (List (Nat × Nat × CO))
  | [] => some []
  | (i, x) :: l => (match opdOf G x, partsAY G s l with | some a, some b => some ((i * s, s, a) :: b) | _, _ => none)


def eqSOfY (t : Nat) : Option EqS :=
  match undF P t with
  | some .bool => some .bool
  | some (.int _) => some .int
  | some .string => some .str
  | some (.pointer e) => (match tySizeY P e with | some (_ + 1) => some .ptr | _ => none)
  | some (.slice _) => some .slice
  | some (.map _ _) => some .map
  | some (.func _ _ _) => some .func
  | some (.interface _) => some .iface
  | _ => none
def eqFieldsY : List Field → Option (List (Nat × EqS))
  | [] => some []
  | f :: l => (match eqSOfY P f.type, eqFieldsY l with | some k, some m => bif f.name == "_" then none else some ((f.offset, k) :: m) | _, _ => none)
def eqKOfY (t : Nat) (cst : Bool) : Option EqK :=
  match eqSOfY P t with
  | some .iface => bif cst then some (.s .iface) else none
  | some k => some (.s k)
  | none => (match undF P t with
    | some (.struct fs) => bif P.stoodInHeld t || P.eqGuardType P.depth t then none else (match eqFieldsY P fs.toList with | some l => some (.flat l) | none => none)
    | _ => none)
def keyKindY (t : Nat) : Option EqS :=
  match undF P t with
  | some .bool => some .bool
  | some (.int _) => some .int
  | some .string => some .str
  | _ => none
def mapKindY (t : Nat) : Option EqS := match undF P t with | some (.map k _) => keyKindY P k | _ => none

def cConvertY (s d : Nat) (x : CO) : Option COp :=
  match undF P s, undF P d with
  | some (.int _), some (.int k) => some (.toInt k x)
  | some (.string), some .string => some (.toStr x)
  | some (.int _), some .string => some (.toStr x)
  | some (.slice e), some .string => (match undF P e with | some (.int .u8) => some (.bytesStr x) | _ => none)
  | some .string, some (.slice e) => (match undF P e with | some (.int .u8) => some (.toBytes e x) | _ => none)
  | some (.pointer t), some .unsafePointer => (match tySizeY P t with | some (_ + 1) => some (.toUp x) | _ => none)
  | some .unsafePointer, some (.pointer u) => (match tySizeY P u with | some (n + 1) => some (.fromUp u (n + 1) x) | _ => none)
  | _, _ => none

def cBuiltinY (b : Builtin) (ts : List Nat) (xs : List CO) : Option COp :=
  match b, ts, xs with
  | .len, [t], [x] => (match undF P t with
    | some .string => some (.len .str x)
    | some (.slice _) => some (.len .slice x)
    | some (.map _ _) => some (.len .map x)
    | some (.array n _) => some (.lenC n x)
    | some (.pointer a) => (match undF P a with | some (.array n _) => some (.lenC n x) | _ => none)
    | _ => none)
  | .cap, [t], [x] => (match undF P t with | some (.slice _) => some (.cap x) | _ => none)
  | .append, [t, u], [x, y] => (match tySliceY P t, undF P u with
    | some (e, s), some (.int _) => none
    | some (e, s), some _ => (match tyZeroCY P e with | some z => bif Nat.beq z.len s && smallBytesY P e && Nat.blt 0 s then some (.append s e x y) else none | none => none)
    | _, _ => none)
  | .copy, [t, _], [x, y] => (match tySliceY P t with | some (_, s) => some (.copy s x y) | none => none)
  | .min, _, xs => some (.minmax false xs)
  | .max, _, xs => some (.minmax true xs)
  | .delete, [t, _], [m, k] => o1 (mapKindY P t) fun q => some (.delete q m k)
  | .unsafeSliceData, _, [x] => some (.sdata x)
  | .unsafeString, t :: _, [x, n] => (match undF P t with | some (.pointer e) => (match tySizeY P e with | some 1 => some (.ustr e x n) | _ => none) | _ => none)
  | _, _, _ => none

def cOpY (op : Op) : Option COp :=
  match op with
  | .move x | .assign x => o1 (opdOf G x) fun a => some (.mv a)
  | .pick c a b => o1 (opdOf G c) fun c => o1 (opdOf G a) fun a => o1 (opdOf G b) fun b => some (.pick c a b)
  | .alloc t => o1 (tyZeroCY P t) fun z => some (.alloc z t)
  | .box t x => o1 (opdOf G x) fun x => some (.box t x)
  | .build t ps => (match tyZeroCY P t, undF P t with
    | some z, some (.struct fs) => bif sizedY P fs.toList then o1 (partsSY P G t ps.toList) fun l => some (.build z l) else none
    | some z, some (.array _ e) => o1 (tySizeY P e) fun s => o1 (partsAY G s ps.toList) fun l => some (.build z l)
    | _, _ => none)
  | .buildSlice t len ps => o1 (tySliceY P t) fun es => o1 (tyZeroCY P es.1) fun z => o1 (partsAY G es.2 ps.toList) fun l => bif Nat.beq z.len es.2 && Nat.ble (Nat.mul len es.2) 100000 && Nat.blt 0 es.2 then some (.bslice (z.rep len) len es.2 es.1 l) else none
  | .load t a => o1 (opdOf G a) fun x => o1 (tyAggY P t) fun g => bif g then o1 (tySizeY P t) fun n => some (.loads n x) else some (.load x)
  | .store t a x => o1 (opdOf G a) fun a => o1 (opdOf G x) fun x => o1 (tySizeY P t) fun n => some (.store n a x)
  | .nilCheck x => o1 (opdOf G x) fun x => some (.nilchk x)
  | .binOp op t x y _ => o1 (opdOf G x) fun x' => o1 (opdOf G y) fun y' => (match op with
    | .eql => o1 (eqKOfY P t (Region.isConst x || Region.isConst y)) fun k => some (.eq false k x' y')
    | .neq => o1 (eqKOfY P t (Region.isConst x || Region.isConst y)) fun k => some (.eq true k x' y')
    | op => some (.bin op x' y'))
  | .unOp op _ x => o1 (opdOf G x) fun x => (match op with | .not => some (.not x) | .neg => some (.neg x) | _ => none)
  | .convert s d x => o1 (opdOf G x) fun x => cConvertY P s d x
  | .makeInterface t x => o1 (opdOf G x) fun x => (match undF P t with | some (.interface _) => none | some _ => some (.iface t x) | none => none)
  | .makeFunc f a c => o1 (opdsOf G a.toList) fun a => o1 (opdsOf G c.toList) fun c => some (.func f a c)
  | .makeMap t r => (match r with | none => some .mkmap | some (.const (.int _ _)) => (match undF P t with | some (.map _ _) => some .mkmap | _ => none) | _ => none)
  | .makeSlice t l c => o1 (tySliceY P t) fun es => o1 (tyZeroCY P es.1) fun z => o1 (opdOf G l) fun l => o1 (opdOf G c) fun c => bif Nat.beq z.len es.2 && smallBytesY P es.1 && Nat.blt 0 es.2 then some (.mkslice z es.2 es.1 l c) else none
  | .slice t x lo hi mx => o1 (opdOf G x) fun x => o1 (opdO G lo) fun lo => o1 (opdO G hi) fun hi => o1 (opdO G mx) fun mx =>
    bif mx.isSome && !hi.isSome then none else (match undF P t with
    | some .string => bif mx.isSome then none else some (.slStr x lo hi)
    | some (.slice e) => o1 (tySizeY P e) fun s => some (.slice s x lo hi mx)
    | some (.array n e) => o1 (tySizeY P e) fun s => some (.slArr n s x lo hi mx)
    | some (.pointer a) => o1 (tyArrY P a) fun q => some (.slArr q.1 q.2.2 x lo hi mx)
    | _ => none)
  | .fieldAddr s x f => o1 (tyFieldY P s f) fun fo => (match tySizeY P fo.1 with | some (_ + 1) => o1 (opdOf G x) fun x => some (.faddr fo.2 x) | _ => none)
  | .field t x f => o1 (tyFieldY P t f) fun fo => o1 (opdOf G x) fun x => o1 (tyAggY P fo.1) fun g => bif g then o1 (tySizeY P fo.1) fun n => some (.fields fo.2 n x) else some (.field fo.2 x)
  | .indexAddr t x i => o1 (opdOf G x) fun x => o1 (opdOf G i) fun i => (match undF P t with
    | some (.array n e) => o1 (tySizeY P e) fun s => some (.idxA n s x i)
    | some (.slice e) => o1 (tySizeY P e) fun s => some (.idxS s x i)
    | _ => none)
  | .index t x i => o1 (opdOf G x) fun x => o1 (opdOf G i) fun i => (match undF P t with
    | some .string => some (.idxStr x i)
    | some (.array n e) => o1 (tySizeY P e) fun s => o1 (tyAggY P e) fun g => bif g then some (.idxVs n s x i) else some (.idxV n s x i)
    | _ => none)
  | .lookup t m k ok => (match undF P t with
    | some (.map kt e) => o1 (keyKindY P kt) fun q => o1 (tyZeroY P e) fun z => o1 (opdOf G m) fun m => o1 (opdOf G k) fun k => some (.lookup q z ok m k)
    | _ => none)
  | .mapUpdate t m k v | .insert t m k v => o1 (mapKindY P t) fun q => o1 (opdOf G m) fun m => o1 (opdOf G k) fun k => o1 (opdOf G v) fun v => some (.mapupd q m k v)
  | .range t x => o1 (opdOf G x) fun x => (match undF P t with | some .string => some (.range true x) | some (.map _ _) => some (.range false x) | _ => none)
  | .next it s => o1 (opdOf G it) fun x => some (.next s x)
  | .typeAssert x _ t ok => o1 (opdOf G x) fun x => (match undF P t with
    | some (.interface want) => bif ok then o1 (tyZeroY P t) fun z => some (.asI want.toList (some z) x) else some (.asI want.toList none x)
    | some _ => bif ok then o1 (tyZeroY P t) fun z => some (.asC t (some z) x) else some (.asC t none x)
    | none => none)
  | .extract x i => o1 (opdOf G x) fun x => some (.extract i x)
  | .call c => o1 (opdsOf G c.args.toList) fun xs => (match c.callee with
    | .builtin b => cBuiltinY P b c.argTypes.toList xs
    | .value f => o1 (opdOf G f) fun f => some (.call (.val f) xs)
    | .invoke r name => o1 (opdOf G r) fun r => some (.call (.inv r name) xs))
  | .defer c => o1 (opdsOf G c.args.toList) fun xs => (match c.callee with
    | .value f => o1 (opdOf G f) fun f => some (.defer f xs)
    | _ => none)
  | _ => none
end typesY
def cOperY (P : Program) (G : Nat) (N : Nat) (ops : Array Oper) (o : Oper) : Option CE :=
  match cOpY P G o.op, cGuard ops o.guard with
  | some co, some g => (match o.dst with
    | none => some ⟨none, g, kind co, co, []⟩
    | some d => bif Nat.blt d N then some ⟨some d, g, kind co, co, []⟩ else none)
  | _, _ => none

def cOpersY (P : Program) (G : Nat) (N : Nat) (ops : Array Oper) : List Oper → Option (List CE)
  | [] => some []
  | o :: l => (match cOperY P G N ops o, cOpersY P G N ops l with | some a, some b => some (a :: b) | _, _ => none)


def mkPlsY (P : Program) (G : Nat) (N : Nat) (ops : Array Oper) (all : List CE) : List Nat → Option (List Pl)
  | [] => some []
  | i :: l => (match ops[i]? with
    | some o => (match cOperY P G N ops o, mkPlsY P G N ops all l with | some c, some r => some (⟨i, anyEdges o, c, flag all i c⟩ :: r) | _, _ => none)
    | none => none)

def cDrawY (P : Program) (G : Nat) (N : Nat) (ops : Array Oper) : Option (List CE) :=
  match cOpersY P G N ops ops.toList with
  | none => none
  | some ces => match ordGo (numb ces 0 ops.toList ces) ops.size 0 with
    | ix => bif Nat.beq ix.length ops.size && (match bitsOf ix with | b => (List.range ops.size).all (bit b)) then (match mkPlsY P G N ops ces ix with | some ps => draws [] ps | none => none) else none

def cCodeY (P : Program) (G : Nat) (N : Nat) : Code → CC
  | .skip => .skip
  | .ret => .ret
  | .exit id => .exit id
  | .label _ => .skip
  | .seq a b => .seq (cCodeY P G N a) (cCodeY P G N b)
  | .cond c a b => (match opdOf G c with | some c => .cond c (cCodeY P G N a) (cCodeY P G N b) | none => .bad)
  | .block id b => .block id (cCodeY P G N b)
  | .loop b => .loop (cCodeY P G N b)
  | .scope b => cCodeY P G N b
  | .region _ ops draw => bif draw then (match cDrawY P G N ops with | some l => .ops l | none => .bad) else (match cOpersY P G N ops ops.toList with | some l => .ops l | none => .bad)
  | _ => .bad


inductive CRes where
  | t (i : Nat)
  | c (i : Nat) (n : Option Nat)

def cRes (P : Program) : List ResultVar → Option (List CRes)
  | [] => some []
  | .tmp i :: l => (match cRes P l with | some l => some (.t i :: l) | none => none)
  | .cell i t :: l => (match tyAgg P t, tySize P t, cRes P l with
    | some true, some n, some l => some (.c i (some n) :: l)
    | some false, _, some l => some (.c i none :: l)
    | _, _, _ => none)

def cResY (P : Program) : List ResultVar → Option (List CRes)
  | [] => some []
  | .tmp i :: l => (match cResY P l with | some l => some (.t i :: l) | none => none)
  | .cell i t :: l => (match tyAggY P t, tySizeY P t, cResY P l with
    | some true, some n, some l => some (.c i (some n) :: l)
    | some false, _, some l => some (.c i none :: l)
    | _, _, _ => none)

inductive CF where
  | bad
  | go (c : CC) (N : Nat) (res : List CRes)
  | ext (x : Ext)

def cFn (P : Program) (G : Nat) (f : Nat) : CF :=
  match P.funcs[f]? with
  | none => .bad
  | some fn => (match fn.body with
    | none => .ext (extOf P fn)
    | some c => (match cResY P fn.results.toList with | some r => .go (cCodeY P G fn.ntmps c) fn.ntmps r | none => .bad))

abbrev DS := List (Nat × AV)

inductive ER where
  | no
  /-- 0 on, 1 returns, n + 2 leaves block n -/
  | ok (x : Nat) (tm : T AV) (H : Hp) (nx : Nat) (ds : DS)

inductive VRes where
  | no
  | ok (v : AV) (H : Hp) (nx : Nat)

def resA (tm : T AV) (H : Hp) : List CRes → Option AV
  | [] => some .nil
  | .t i :: l => (match tm.get i with | some v => (match resA tm H l with | some m => some (.cons v m) | none => none) | none => none)
  | .c i n :: l => (match tm.get i with
    | some (.ptr id off) => (match (match n with | some n => (match rdAt H id off n with | some l => some (AV.agg l) | none => none) | none => (match H.get id with | some (.cells c _ _ _) => c.get off | _ => none)) with
      | some v => (match resA tm H l with | some m => some (.cons v m) | none => none)
      | none => none)
    | _ => none)

def resOf (l : AV) : AV := match l with | .cons v .nil => v | l => .tup l

def putD (tm : T AV) (d : Option Nat) (v : AV) : Option (T AV) :=
  Option.rec (motive := fun _ => Option (T AV)) (some tm) (fun i => tm.put i v) d

def holdsG (tm : T AV) (g : Option (Nat × Bool)) : Option Bool :=
  match g with
  | none => some true
  | some (d, want) => (match tm.get d with | some (.bool b) => some (b == want) | some .unk => none | some _ => some false | none => none)

def sameO : Option Int → Option Int → Bool
  | none, none => true
  | some a, some b => ieq a b
  | _, _ => false
def sameAV : Nat → AV → AV → Bool
  | 0, _, _ => false
  | d + 1, x, y => match x, y with
    | .bool a, .bool b => a == b
    | .int k a, .int j b => Nat.beq (kcode k) (kcode j) && ieq a b
    | .str a, .str b => natsEq a b
    | .nilPtr, .nilPtr | .nilSl, .nilSl | .slE, .slE | .nilMap, .nilMap | .nilFn, .nilFn | .nilIface, .nilIface | .nil, .nil | .unk, .unk => true
    | .rng a b, .rng c d => sameO a c && sameO b d
    | .ptr i o, .ptr j q => Nat.beq i j && Nat.beq o q
    | .sl i o n c, .sl j q m d => Nat.beq i j && Nat.beq o q && Nat.beq n m && (match c, d with | none, none => true | some a, some b => Nat.beq a b | _, _ => false)
    | .map i, .map j => Nat.beq i j
    | .iface t a, .iface u b => Nat.beq t u && sameAV d a b
    | .cons a x, .cons b y => sameAV d a b && sameAV d x y
    | .agg a, .agg b | .tup a, .tup b => sameAV d a b
    | _, _ => false

def chkA (P : Program) (tm : T AV) (H : Hp) : List (Option (Nat × Bool) × COp × Nat) → Bool
  | [] => true
  | (g, co, d) :: l => (match holdsG tm g with
    | some false => chkA P tm H l
    | some true => (match readA P co tm H, tm.get d with | some a, some b => bif sameAV 1000 a b then chkA P tm H l else false | _, _ => false)
    | none => false)

def initT (N : Nat) (args : AV) : Option (T AV) := bif Nat.ble args.len N then putCells (T.rep undefA N N) 0 args else none

section
variable (P : Program) (G : Nat)

def opA (ih : Nat → AV → Hp → Nat → VRes) (ce : CE) (tm : T AV) (H : Hp) (nx : Nat) (ds : DS) (k : T AV → Hp → Nat → DS → ER) : ER :=
  Option.rec (motive := fun _ => ER) .no (fun b => Bool.rec (motive := fun _ => ER)
      (Option.rec (motive := fun _ => ER) .no (fun tm => k tm H nx ds) (putD tm ce.dst undefA))
      (Nat.rec (motive := fun _ => ER)
        (Option.rec (motive := fun _ => ER) .no (fun v => Option.rec (motive := fun _ => ER) .no (fun tm => k tm H nx ds) (putD tm ce.dst v)) (pureA P ce.co tm))
        (fun i _ => Nat.rec (motive := fun _ => ER)
          (Option.rec (motive := fun _ => ER) .no (fun v => Option.rec (motive := fun _ => ER) .no (fun tm => k tm H nx ds) (putD tm ce.dst v)) (readA P ce.co tm H))
          (fun j _ => Nat.rec (motive := fun _ => ER)
            (match newA ce.co tm nx with
              | none => .no
              | some (v, o) => (match H.put nx o, putD tm ce.dst v with | some H, some tm => k tm H (Nat.succ nx) ds | _, _ => .no))
            (fun _ _ => match heavyA P G ce.co tm H nx with
              | .no => .no
              | .v a H nx => (match putD tm ce.dst a with | some tm => bif chkA P tm H ce.chk then k tm H nx ds else .no | none => .no)
              | .call f args => (match ih f args H nx with
                | .no => .no
                | .ok a H nx => (match putD tm ce.dst a with | some tm => bif chkA P tm H ce.chk then k tm H nx ds else .no | none => .no))
              | .defer f args => (match putD tm ce.dst undefA with | some tm => bif chkA P tm H ce.chk then k tm H nx ((f, args) :: ds) else .no | none => .no)) j) i) ce.kd) b) (holdsG tm ce.guard)

def opsA (ih : Nat → AV → Hp → Nat → VRes) (l : List CE) : T AV → Hp → Nat → DS → ER :=
  List.rec (motive := fun _ => T AV → Hp → Nat → DS → ER) (fun tm H nx ds => .ok 0 tm H nx ds) (fun ce _ k tm H nx ds => opA P G ih ce tm H nx ds k) l

def runD (ih : Nat → AV → Hp → Nat → VRes) : DS → Hp → Nat → VRes
  | [], H, nx => .ok undefA H nx
  | (f, a) :: l, H, nx => (match ih f a H nx with | .ok _ H nx => runD ih l H nx | .no => .no)

def callA (ih : CC → T AV → Hp → Nat → DS → ER) (rd : Nat → AV → Hp → Nat → VRes) (f : Nat) (args : AV) (H : Hp) (nx : Nat) : VRes :=
  match cFn P G f with
  | .bad => .no
  | .ext x => (match extA x args H nx with | .v a H nx => .ok a H nx | _ => .no)
  | .go c N res => (match initT N args with
    | none => .no
    | some tm => (match ih c tm H nx [] with
      | .no => .no
      | .ok x tm H nx ds => bif Nat.ble x 1 then (match runD rd ds H nx with
          | .no => .no
          | .ok _ H nx => (match resA tm H res with | some l => .ok (resOf l) H nx | none => .no)) else .no))

def stepA (ih : CC → T AV → Hp → Nat → DS → ER) (rd : Nat → AV → Hp → Nat → VRes) (c : CC) (tm : T AV) (H : Hp) (nx : Nat) (ds : DS) : ER :=
  match c with
  | .bad => .no
  | .skip => .ok 0 tm H nx ds
  | .ret => .ok 1 tm H nx ds
  | .exit id => .ok (Nat.add id 2) tm H nx ds
  | .seq a b => (match ih a tm H nx ds with | .ok x tm H nx ds => (match x with | 0 => ih b tm H nx ds | x + 1 => .ok (x + 1) tm H nx ds) | .no => .no)
  | .cond c a b => (match opd tm c with | some (.bool t) => (match t with | true => ih a tm H nx ds | false => ih b tm H nx ds) | _ => .no)
  | .block id b => (match ih b tm H nx ds with | .ok x tm H nx ds => bif Nat.beq x (Nat.add id 2) then .ok 0 tm H nx ds else .ok x tm H nx ds | .no => .no)
  | .loop b => (match ih b tm H nx ds with | .ok x tm H nx ds => (match x with | 0 => ih (.loop b) tm H nx ds | x + 1 => .ok (x + 1) tm H nx ds) | .no => .no)
  | .ops l => opsA P G (callA P G ih rd) l tm H nx ds

/-- a deferred call is passed by: that of the function `rf`, which does nothing on a plain way out -/
def rdA (rf : Nat) : Nat → AV → Hp → Nat → VRes := fun f _ H nx => bif Nat.beq f rf then .ok undefA H nx else .no

def ev (rf : Nat) (n : Nat) : CC → T AV → Hp → Nat → DS → ER :=
  Nat.rec (motive := fun _ => CC → T AV → Hp → Nat → DS → ER) (fun _ _ _ _ _ => .no) (fun _ ih => stepA P G ih (rdA rf)) n

def evCall (rf : Nat) (n : Nat) (f : Nat) (args : AV) (H : Hp) (nx : Nat) : VRes := callA P G (ev P G rf n) (rdA rf) f args H nx
end
end Go.Ev

namespace Go.Ev

/-! ### rows by place -/
namespace T
variable {α : Type}
@[simp] theorem get_e (i : Nat) : (T.e : T α).get i = none := rfl
theorem get_n (v : α) (l r : T α) (i : Nat) : (T.n v l r).get i = match i with | 0 => some v | j + 1 => if j % 2 = 0 then l.get (j / 2) else r.get (j / 2) := by
  cases i with
  | zero => rfl
  | succ j =>
    show Nat.rec (motive := fun _ => Option α) (l.get (Nat.div j 2)) (fun _ _ => r.get (Nat.div j 2)) (Nat.mod j 2) = if j % 2 = 0 then l.get (j / 2) else r.get (j / 2)
    have h : Nat.mod j 2 = j % 2 := rfl
    have h' : Nat.div j 2 = j / 2 := rfl
    rw [h, h']
    rcases Nat.mod_two_eq_zero_or_one j with e | e <;> rw [e] <;> rfl
theorem put_e (i : Nat) (x : α) : (T.e : T α).put i x = match i with | 0 => some (.n x .e .e) | _ + 1 => none := by cases i <;> rfl
theorem put_n (v : α) (l r : T α) (i : Nat) (x : α) : (T.n v l r).put i x = match i with | 0 => some (.n x l r) | j + 1 => if j % 2 = 0 then (l.put (j / 2) x).map (fun l' => .n v l' r) else (r.put (j / 2) x).map (fun r' => .n v l r') := by
  cases i with
  | zero => rfl
  | succ j =>
    show Nat.rec (motive := fun _ => Option (T α)) (Option.rec (motive := fun _ => Option (T α)) none (fun l' => some (.n v l' r)) (l.put (Nat.div j 2) x)) (fun _ _ => Option.rec (motive := fun _ => Option (T α)) none (fun r' => some (.n v l r')) (r.put (Nat.div j 2) x)) (Nat.mod j 2) = _
    have h : Nat.mod j 2 = j % 2 := rfl
    have h' : Nat.div j 2 = j / 2 := rfl
    rw [h, h']
    rcases Nat.mod_two_eq_zero_or_one j with e | e
    · simp only [e, if_true]; cases l.put (j / 2) x <;> rfl
    · simp only [e]; cases r.put (j / 2) x <;> rfl

theorem get_put {t t' : T α} {i : Nat} {x : α} (h : t.put i x = some t') (j : Nat) : t'.get j = if j = i then some x else t.get j := by
  induction t generalizing i t' j with
  | e =>
    rw [put_e] at h
    cases i with
    | zero => cases h; rw [get_n]; cases j <;> simp
    | succ i => cases h
  | n v l r ihl ihr =>
    rw [put_n] at h
    cases i with
    | zero => cases h; rw [get_n, get_n]; cases j <;> simp
    | succ i =>
      simp only at h
      split at h
      · rename_i hp
        rw [Option.map_eq_some_iff] at h
        obtain ⟨l', hl, rfl⟩ := h
        rw [get_n, get_n]
        cases j with
        | zero => simp
        | succ j =>
          simp only [Nat.add_right_cancel_iff]
          split
          · rw [ihl hl]
            by_cases e : j = i
            · subst e; simp
            · have : ¬ j / 2 = i / 2 := by omega
              simp [e, this]
          · have : ¬ j = i := by omega
            simp [this]
      · rename_i hp
        rw [Option.map_eq_some_iff] at h
        obtain ⟨r', hr, rfl⟩ := h
        rw [get_n, get_n]
        cases j with
        | zero => simp
        | succ j =>
          simp only [Nat.add_right_cancel_iff]
          split
          · have : ¬ j = i := by omega
            simp [this]
          · rw [ihr hr]
            by_cases e : j = i
            · subst e; simp
            · have : ¬ j / 2 = i / 2 := by omega
              simp [e, this]
theorem get_put_same {t t' : T α} {i : Nat} {x : α} (h : t.put i x = some t') : t'.get i = some x := by rw [get_put h]; simp
theorem get_put_ne {t t' : T α} {i j : Nat} {x : α} (h : t.put i x = some t') (hn : j ≠ i) : t'.get j = t.get j := by rw [get_put h]; simp [hn]

theorem get_rep (x : α) : ∀ (f n i : Nat) (v : α), (rep x f n).get i = some v → v = x ∧ i < n := by
  intro f
  induction f with
  | zero => intro n i v h; simp [rep] at h
  | succ f ih =>
    intro n i v h
    cases n with
    | zero => simp [rep] at h
    | succ n =>
      rw [rep, get_n] at h
      have hs : Nat.div (Nat.succ n) 2 = (n + 1) / 2 := rfl
      have hd : Nat.div n 2 = n / 2 := rfl
      rw [hs, hd] at h
      cases i with
      | zero => simp at h; exact ⟨h.symm, by omega⟩
      | succ j =>
        simp only at h
        split at h
        · have := ih _ _ _ h; exact ⟨this.1, by omega⟩
        · have := ih _ _ _ h; exact ⟨this.1, by omega⟩
theorem get_rep_lt (x : α) : ∀ (f n i : Nat), n ≤ f → i < n → (rep x f n).get i = some x := by
  intro f
  induction f with
  | zero => intro n i h h'; omega
  | succ f ih =>
    intro n i h h'
    cases n with
    | zero => omega
    | succ n =>
      rw [rep, get_n]
      have hs : Nat.div (Nat.succ n) 2 = (n + 1) / 2 := rfl
      have hd : Nat.div n 2 = n / 2 := rfl
      rw [hs, hd]
      cases i with
      | zero => rfl
      | succ j =>
        simp only
        split
        · exact ih _ _ (by omega) (by omega)
        · exact ih _ _ (by omega) (by omega)
end T

/-! ### where a block lies -/
structure Loc where
  b : Nat
  base : Nat
  lim : Nat
  sz : Nat

abbrev Env := Nat → Option Loc

mutual
/-- an abstract value stands for a value -/
def VR (env : Env) : AV → Value → Prop
  | .bool b, v => v = .bool b
  | .int k n, v => v = .int k n
  | .str l, v => ∃ s : ByteArray, v = .string s ∧ s.data.toList.map (·.toNat) = l
  | .nilPtr, v => v = .pointer none
  | .ptr id off, v => ∃ L, env id = some L ∧ v = .pointer (some ⟨L.b, L.base + off, none⟩)
  | .nilSl, v => v = .slice none 0 0
  | .sl id off len cap, v => ∃ L c, env id = some L ∧ v = .slice (some ⟨L.b, L.base + off, none⟩) len c ∧ (match cap with | some k => c = k | none => off + c * L.sz = L.lim)
  | .slE, v => ∃ a c, v = .slice (some a) 0 c
  | .nilMap, v => v = .map none
  | .map id, v => ∃ L, env id = some L ∧ v = .map (some L.b)
  | .fn f a c, v => ∃ x y, v = .func f x y ∧ VL env a x.toList ∧ VL env c y.toList
  | .nilFn, v => v = .nilFunc
  | .iface t x, v => ∃ y, v = .iface t y ∧ VR env x y
  | .nilIface, v => v = .nilIface
  | .agg l, v => ∃ x, v = .agg x ∧ VL env l x.toList
  | .tup l, v => ∃ x, v = .tuple x ∧ VL env l x.toList
  | .unk, v => v.oneCell = true
  | .rng lo hi, v => ∃ n : Int, v = .int .i64 n ∧ (∀ l, lo = some l → l ≤ n) ∧ (∀ h, hi = some h → n ≤ h)
  | .rs k m r, v => ∃ n : Nat, v = .int k n ∧ n % m = r ∧ n < 256
  | .nil, _ => False
  | .cons _ _, _ => False
termination_by structural x => x
def VL (env : Env) : AV → List Value → Prop
  | .nil, l => l = []
  | .cons h t, l => ∃ x xs, l = x :: xs ∧ VR env h x ∧ VL env t xs
  | _, _ => False
termination_by structural x => x
end

def Le (env env' : Env) : Prop := ∀ id L, env id = some L → env' id = some L
theorem Le.refl (env : Env) : Le env env := fun _ _ h => h
theorem Le.trans {a b c : Env} (h : Le a b) (h' : Le b c) : Le a c := fun id L e => h' id L (h id L e)

theorem VR.mono {env env' : Env} (h : Le env env') : ∀ x, (∀ v, VR env x v → VR env' x v) ∧ (∀ l, VL env x l → VL env' x l) := by
  intro x
  induction x with
  | ptr id off => exact ⟨fun v ⟨L, a, b⟩ => ⟨L, h _ _ a, b⟩, fun l hl => by simp [VL] at hl⟩
  | sl id off len cap => exact ⟨fun v ⟨L, c, a, b, d⟩ => ⟨L, c, h _ _ a, b, d⟩, fun l hl => by simp [VL] at hl⟩
  | map id => exact ⟨fun v ⟨L, a, b⟩ => ⟨L, h _ _ a, b⟩, fun l hl => by simp [VL] at hl⟩
  | fn f a c iha ihc => exact ⟨fun v ⟨x, y, e, ha, hc⟩ => ⟨x, y, e, iha.2 _ ha, ihc.2 _ hc⟩, fun l hl => by simp [VL] at hl⟩
  | iface t x ih => exact ⟨fun v ⟨y, e, hy⟩ => ⟨y, e, ih.1 _ hy⟩, fun l hl => by simp [VL] at hl⟩
  | agg l ih => exact ⟨fun v ⟨y, e, hy⟩ => ⟨y, e, ih.2 _ hy⟩, fun l hl => by simp [VL] at hl⟩
  | tup l ih => exact ⟨fun v ⟨y, e, hy⟩ => ⟨y, e, ih.2 _ hy⟩, fun l hl => by simp [VL] at hl⟩
  | cons a b iha ihb => exact ⟨fun v hv => hv.elim, fun l ⟨x, xs, e, hx, hxs⟩ => ⟨x, xs, e, iha.1 _ hx, ihb.2 _ hxs⟩⟩
  | _ => exact ⟨fun v hv => hv, fun l hl => hl⟩
theorem VR.ext {env env' : Env} (h : Le env env') {x : AV} {v : Value} (hv : VR env x v) : VR env' x v := (VR.mono h x).1 v hv
theorem VL.ext {env env' : Env} (h : Le env env') {x : AV} {l : List Value} (hv : VL env x l) : VL env' x l := (VR.mono h x).2 l hv

theorem VL.len {env : Env} {x : AV} : ∀ {l : List Value}, VL env x l → x.len = l.length := by
  induction x with
  | cons a b _ ihb => rintro l ⟨x, xs, rfl, _, h⟩; show Nat.succ b.len = _; rw [ihb h]; rfl
  | nil => rintro l rfl; rfl
  | _ => intro l h; exact h.elim
theorem VL.app {env : Env} {x y : AV} : ∀ {l m : List Value}, VL env x l → VL env y m → VL env (x.app y) (l ++ m) := by
  induction x with
  | cons a b _ ihb => rintro l m ⟨x, xs, rfl, hx, h⟩ hm; exact ⟨x, xs ++ m, rfl, hx, ihb h hm⟩
  | nil => rintro l m rfl hm; exact hm
  | _ => intro l m h; exact h.elim
theorem VL.nth {env : Env} {x : AV} : ∀ {l : List Value} {i : Nat} {v : AV}, VL env x l → x.nth i = some v → ∃ c, l[i]? = some c ∧ VR env v c := by
  induction x with
  | cons a b _ ihb =>
    rintro l i v ⟨x, xs, rfl, hx, h⟩ hi
    cases i with
    | zero => simp [AV.nth] at hi; subst hi; exact ⟨x, rfl, hx⟩
    | succ i => simp [AV.nth] at hi; obtain ⟨c, hc, hv⟩ := ihb h hi; exact ⟨c, by simpa using hc, hv⟩
  | nil => rintro l i v rfl hi; simp [AV.nth] at hi
  | _ => intro l i v h; exact h.elim
theorem VL.part0 {env : Env} {x : AV} : ∀ {l : List Value} {n : Nat} {v : AV}, VL env x l → x.part 0 n = some v → n ≤ l.length ∧ VL env v (l.take n) := by
  induction x with
  | cons a b _ ihb =>
    rintro l n v ⟨x, xs, rfl, hx, h⟩ hi
    cases n with
    | zero => simp [AV.part] at hi; subst hi; simp [VL]
    | succ n =>
      simp only [AV.part] at hi
      split at hi
      · rename_i w hw
        cases hi
        obtain ⟨h1, h2⟩ := ihb h hw
        exact ⟨by simpa using h1, ⟨x, xs.take n, by simp, hx, h2⟩⟩
      · cases hi
  | nil => rintro l n v rfl hi; cases n with | zero => simp [AV.part] at hi; subst hi; simp [VL] | succ n => simp [AV.part] at hi
  | _ => intro l n v h; exact h.elim
theorem VL.part {env : Env} {x : AV} : ∀ {l : List Value} {i n : Nat} {v : AV}, VL env x l → x.part i n = some v → (n = 0 ∨ i + n ≤ l.length) ∧ VL env v ((l.drop i).take n) := by
  induction x with
  | cons a b _ ihb =>
    rintro l i n v ⟨x, xs, rfl, hx, h⟩ hi
    cases n with
    | zero => have : v = .nil := by cases i <;> simpa [AV.part, eq_comm] using hi
              subst this; simp [VL]
    | succ n =>
      cases i with
      | zero => have := VL.part0 (x := .cons a b) ⟨x, xs, rfl, hx, h⟩ hi; exact ⟨.inr (by simpa using this.1), by simpa using this.2⟩
      | succ i =>
        simp only [AV.part] at hi
        obtain ⟨h1, h2⟩ := ihb h hi
        refine ⟨.inr ?_, by simpa using h2⟩
        rcases h1 with h1 | h1
        · omega
        · simp; omega
  | nil =>
    rintro l i n v rfl hi
    cases n with
    | zero => have : v = .nil := by cases i <;> simpa [AV.part, eq_comm] using hi
              subst this; simp [VL]
    | succ n => cases i <;> simp [AV.part] at hi
  | _ => intro l i n v h; exact h.elim
theorem VR.cells {env : Env} {x : AV} {v : Value} (h : VR env x v) : VL env x.cells v.cells.toList := by
  cases x with
  | agg l => obtain ⟨y, rfl, hy⟩ := h; exact hy
  | nil => exact h.elim
  | cons a b => exact h.elim
  | unk =>
    have : v.cells = #[v] := by cases v <;> first | rfl | (simp [VR, Value.oneCell] at h)
    rw [this]
    exact ⟨v, [], rfl, h, rfl⟩
  | _ => 
    have : v.cells = #[v] := by
      simp only [VR] at h
      first
        | (subst h; rfl)
        | (obtain ⟨_, rfl, _⟩ := h; rfl)
        | (obtain ⟨_, _, rfl⟩ := h; rfl)
        | (obtain ⟨_, _, _, rfl, _⟩ := h; rfl)
        | (obtain ⟨_, _, rfl⟩ := h; rfl)
        | (obtain ⟨_, _, rfl, _⟩ := h; rfl)
    rw [this]
    exact ⟨v, [], rfl, h, rfl⟩

/-! ### memory -/
def AO.live : AO → Bool
  | .dead => false
  | _ => true

def MR (env : Env) : List Ent → List MapEntry → Prop
  | [], l => l = []
  | e :: es, l => ∃ m ms, l = m :: ms ∧ VR env e.key m.key ∧ VR env e.val m.val ∧ e.born = m.born ∧ MR env es ms

def OR (env : Env) (L : Loc) : AO → Obj → Prop
  | .cells c n sz e, ob => ∃ arr fr, ob = .cells arr e fr ∧ L.base + n ≤ arr.size ∧ (sz = 0 → L.base = 0 ∧ n = arr.size) ∧ (sz ≠ 0 → L.sz = sz ∧ L.base + L.lim = arr.size) ∧
      (∀ i v, c.get i = some v → i < n ∧ ∃ x, arr[L.base + i]? = some x ∧ VR env v x) ∧ (∀ k, k < arr.size → ¬ (fr.1 ≤ k ∧ k < fr.2))
  | .map es clock, ob => L.base = 0 ∧ ∃ arr, ob = .map arr clock ∧ MR env es arr.toList
  | .iter m since seen st, ob => L.base = 0 ∧ ∃ m', ob = .mapIter m' since seen.toArray st ∧ (match m with | none => m' = none | some id => ∃ K, env id = some K ∧ m' = some K.b)
  | .siter l pos, ob => L.base = 0 ∧ ∃ s : ByteArray, ob = .stringIter s pos ∧ s.data.toList.map (·.toNat) = l
  | .dead, _ => True

theorem MR.ext {env env' : Env} (h : Le env env') : ∀ {es : List Ent} {l : List MapEntry}, MR env es l → MR env' es l
  | [], _, e => e
  | _ :: _, _, ⟨m, ms, e, a, b, c, d⟩ => ⟨m, ms, e, a.ext h, b.ext h, c, MR.ext h d⟩

theorem OR.ext {env env' : Env} (h : Le env env') {L : Loc} : ∀ {o : AO} {ob : Obj}, OR env L o ob → OR env' L o ob
  | .cells .., _, ⟨arr, fr, e, a, b, b', c, d⟩ => ⟨arr, fr, e, a, b, b', fun i v hv => let ⟨x, y, z, t⟩ := c i v hv; ⟨x, y, z, t.ext h⟩, d⟩
  | .map .., _, ⟨z, arr, e, m⟩ => ⟨z, arr, e, m.ext h⟩
  | .iter none .., _, ⟨z, m', e, q⟩ => ⟨z, m', e, q⟩
  | .iter (some _) .., _, ⟨z, m', e, K, q, r⟩ => ⟨z, m', e, K, h _ _ q, r⟩
  | .siter .., _, x => x
  | .dead, _, _ => trivial

structure SR (env : Env) (H : Hp) (nx : Nat) (w : World) : Prop where
  obj : ∀ id L o, env id = some L → H.get id = some o → ∃ ob, w.heap[L.b]? = some ob ∧ OR env L o ob
  bnd : ∀ id L, env id = some L → L.b < w.heap.size ∧ id < nx
  inj : ∀ id id' L L' o o', env id = some L → env id' = some L' → H.get id = some o → H.get id' = some o' → o.live = true → o'.live = true → L.b = L'.b → id = id'
  top : ∀ id, nx ≤ id → H.get id = none

structure Tr (G : Nat) (env : Env) (H : Hp) (nx : Nat) (w : World) (env' : Env) (H' : Hp) (nx' : Nat) (w' : World) : Prop where
  le : Le env env'
  nxle : nx ≤ nx'
  news : ∀ id L, env' id = some L → env id = some L ∨ (nx ≤ id ∧ (w.heap.size ≤ L.b ∨ ∃ id0 L0, G ≤ id0 ∧ env id0 = some L0 ∧ L0.b = L.b))
  un : ∀ id, id < nx → env id = none → H'.get id = H.get id
  size : w.heap.size ≤ w'.heap.size
  frame : ∀ b, b < w.heap.size → (∀ id L, G ≤ id → env id = some L → L.b ≠ b) → w'.heap[b]? = w.heap[b]?
  os : w'.os = w.os
  tape : w'.tape = w.tape
  output : w'.output = w.output

theorem Tr.refl (G : Nat) (env : Env) (H : Hp) (nx : Nat) (w : World) : Tr G env H nx w env H nx w :=
  ⟨Le.refl _, Nat.le_refl _, fun _ _ h => .inl h, fun _ _ _ => rfl, Nat.le_refl _, fun _ _ _ => rfl, rfl, rfl, rfl⟩

theorem Tr.trans {G : Nat} {e0 e1 e2 : Env} {H0 H1 H2 : Hp} {n0 n1 n2 : Nat} {w0 w1 w2 : World} (h : Tr G e0 H0 n0 w0 e1 H1 n1 w1) (k : Tr G e1 H1 n1 w1 e2 H2 n2 w2) : Tr G e0 H0 n0 w0 e2 H2 n2 w2 where
  le := h.le.trans k.le
  nxle := Nat.le_trans h.nxle k.nxle
  news := fun id L hL => by
    rcases k.news id L hL with a | ⟨a, b⟩
    · exact h.news id L a
    · refine .inr ⟨Nat.le_trans h.nxle a, ?_⟩
      rcases b with b | ⟨id0, L0, g, e, f⟩
      · exact .inl (Nat.le_trans h.size b)
      · rcases h.news id0 L0 e with c | ⟨_, c⟩
        · exact .inr ⟨id0, L0, g, c, f⟩
        · rcases c with c | ⟨id1, L1, g1, e1, f1⟩
          · exact .inl (f ▸ c)
          · exact .inr ⟨id1, L1, g1, e1, f1.trans f⟩
  un := fun id hid he => by
    rw [k.un id (Nat.lt_of_lt_of_le hid h.nxle), h.un id hid he]
    cases e : e1 id with
    | none => rfl
    | some L => rcases h.news id L e with a | ⟨a, _⟩
                · rw [he] at a; cases a
                · omega
  size := Nat.le_trans h.size k.size
  frame := fun b hb hn => by
    rw [k.frame b (Nat.lt_of_lt_of_le hb h.size), h.frame b hb hn]
    intro id L g e
    rcases h.news id L e with a | ⟨_, a⟩
    · exact hn id L g a
    · rcases a with a | ⟨id0, L0, g0, e0, f0⟩
      · omega
      · rw [← f0]; exact hn id0 L0 g0 e0
  os := k.os.trans h.os
  tape := k.tape.trans h.tape
  output := k.output.trans h.output

/-- a block is made -/
theorem SR.new {G : Nat} {env : Env} {H H' : Hp} {nx : Nat} {w w' : World} (h : SR env H nx w) {o : AO} {ob : Obj} (L : Loc) (hL : L.b = w.heap.size) (hp : H.put nx o = some H')
    (hw : w'.heap = w.heap.push ob) (h1 : w'.os = w.os) (h2 : w'.tape = w.tape) (h3 : w'.output = w.output) (ho : ∀ env', Le env env' → env' nx = some L → OR env' L o ob) :
    ∃ env', env' nx = some L ∧ SR env' H' (nx + 1) w' ∧ Tr G env H nx w env' H' (nx + 1) w' ∧ (∀ id, id ≠ nx → env' id = env id) := by
  have hnone : env nx = none := by cases e : env nx with | none => rfl | some K => have := (h.bnd nx K e).2; omega
  have hle : Le env (fun i => if i = nx then some L else env i) := fun id K hK => by
    have : id ≠ nx := fun e => by subst e; rw [hnone] at hK; cases hK
    simp [this, hK]
  refine ⟨fun i => if i = nx then some L else env i, by simp, ⟨?_, ?_, ?_, ?_⟩, ⟨hle, by omega, ?_, ?_, ?_, ?_, h1, h2, h3⟩, fun id hid => by simp [hid]⟩
  · intro id K q he hq
    by_cases e : id = nx
    · subst e
      simp at he; subst he
      rw [T.get_put_same hp] at hq; cases hq
      exact ⟨ob, by rw [hw, hL]; simp, ho _ hle (by simp)⟩
    · simp [e] at he
      rw [T.get_put_ne hp e] at hq
      obtain ⟨ob', a, b⟩ := h.obj id K q he hq
      refine ⟨ob', ?_, b.ext hle⟩
      rw [hw, Array.getElem?_push, if_neg (by have := (h.bnd id K he).1; omega), a]
  · intro id K he
    by_cases e : id = nx
    · subst e; simp at he; subst he; exact ⟨by rw [hw, hL]; simp, by omega⟩
    · simp [e] at he; have := h.bnd id K he; exact ⟨by rw [hw]; simp; omega, by omega⟩
  · intro id id' K K' q q' he he' hq hq' lq lq' hb
    by_cases e : id = nx
    · by_cases e' : id' = nx
      · rw [e, e']
      · simp [e] at he; simp [e'] at he'; have := (h.bnd id' K' he').1; subst he; omega
    · simp [e] at he
      by_cases e' : id' = nx
      · simp [e'] at he'; have := (h.bnd id K he).1; subst he'; omega
      · simp [e'] at he'
        rw [T.get_put_ne hp e] at hq; rw [T.get_put_ne hp e'] at hq'
        exact h.inj id id' K K' q q' he he' hq hq' lq lq' hb
  · intro id hid
    rw [T.get_put_ne hp (by omega)]; exact h.top id (by omega)
  · intro id K he
    by_cases e : id = nx
    · subst e; simp at he; subst he; exact .inr ⟨Nat.le_refl _, .inl (by omega)⟩
    · simp [e] at he; exact .inl he
  · intro id hid _; rw [T.get_put_ne hp (by omega)]
  · rw [hw]; simp
  · intro b hb _; rw [hw, Array.getElem?_push, if_neg (by omega)]

/-- a block that is there is turned -/
theorem SR.turn {G : Nat} {env : Env} {H H' : Hp} {nx : Nat} {w w' : World} (h : SR env H nx w) {id : Nat} {L : Loc} {o o' : AO} {ob : Obj} (he : env id = some L) (hG : G ≤ id) (hq : H.get id = some o) (hlive : o.live = true)
    (hp : H.put id o' = some H') (hw : ∀ b, b ≠ L.b → w'.heap[b]? = w.heap[b]?) (hb : w'.heap[L.b]? = some ob) (hs : w'.heap.size = w.heap.size) (h1 : w'.os = w.os) (h2 : w'.tape = w.tape) (h3 : w'.output = w.output)
    (ho : OR env L o' ob) : SR env H' nx w' ∧ Tr G env H nx w env H' nx w' := by
  have hlt := (h.bnd id L he).2
  refine ⟨⟨?_, ?_, ?_, ?_⟩, ⟨Le.refl _, Nat.le_refl _, fun _ _ e => .inl e, ?_, by omega, ?_, h1, h2, h3⟩⟩
  · intro j K q hK hq'
    by_cases e : j = id
    · subst e; rw [he] at hK; cases hK; rw [T.get_put_same hp] at hq'; cases hq'; exact ⟨ob, hb, ho⟩
    · rw [T.get_put_ne hp e] at hq'
      obtain ⟨ob', a, b⟩ := h.obj j K q hK hq'
      by_cases hl : q.live = true
      · refine ⟨ob', ?_, b⟩
        rw [hw _ ?_, a]
        intro hbb
        exact e (h.inj j id K L q o hK he hq' hq hl hlive hbb)
      · cases q <;> simp [AO.live] at hl
        by_cases hbb : K.b = L.b
        · exact ⟨ob, by rw [hbb]; exact hb, trivial⟩
        · exact ⟨ob', by rw [hw _ hbb, a], trivial⟩
  · intro j K hK; have := h.bnd j K hK; exact ⟨by omega, this.2⟩
  · intro j j' K K' q q' hK hK' hq1 hq2 l1 l2 hbb
    have key : ∀ i x, H'.get i = some x → x.live = true → ∃ y, H.get i = some y ∧ y.live = true := by
      intro i x hx hl
      by_cases e : i = id
      · subst e; exact ⟨o, hq, hlive⟩
      · rw [T.get_put_ne hp e] at hx; exact ⟨x, hx, hl⟩
    obtain ⟨y, a, b⟩ := key _ _ hq1 l1
    obtain ⟨y', a', b'⟩ := key _ _ hq2 l2
    exact h.inj j j' K K' y y' hK hK' a a' b b' hbb
  · intro j hj; rw [T.get_put_ne hp (by omega)]; exact h.top j hj
  · intro j hj hn
    have : j ≠ id := fun e => by subst e; rw [he] at hn; cases hn
    rw [T.get_put_ne hp this]
  · intro b _ hn; exact hw b (fun e => hn id L hG he e.symm)

/-- a row is given up: it may be any -/
theorem SR.kill {G : Nat} {env : Env} {H H' : Hp} {nx : Nat} {w : World} (h : SR env H nx w) {id : Nat} {o : AO} (hq : H.get id = some o) (hne : ∃ L, env id = some L) (hp : H.put id .dead = some H') : SR env H' nx w ∧ Tr G env H nx w env H' nx w := by
  have hlt : id < nx := by rcases Nat.lt_or_ge id nx with a | a; exact a; rw [h.top id a] at hq; cases hq
  obtain ⟨L0, hL0⟩ := hne
  refine ⟨⟨?_, h.bnd, ?_, ?_⟩, ⟨Le.refl _, Nat.le_refl _, fun _ _ e => .inl e, ?_, Nat.le_refl _, fun _ _ _ => rfl, rfl, rfl, rfl⟩⟩
  · intro j K q hK hq'
    by_cases e : j = id
    · subst e; rw [T.get_put_same hp] at hq'; cases hq'
      obtain ⟨ob, a, _⟩ := h.obj j K o hK hq
      exact ⟨ob, a, trivial⟩
    · rw [T.get_put_ne hp e] at hq'; exact h.obj j K q hK hq'
  · intro j j' K K' q q' hK hK' hq1 hq2 l1 l2 hbb
    have n1 : j ≠ id := fun e => by subst e; rw [T.get_put_same hp] at hq1; cases hq1; cases l1
    have n2 : j' ≠ id := fun e => by subst e; rw [T.get_put_same hp] at hq2; cases hq2; cases l2
    rw [T.get_put_ne hp n1] at hq1; rw [T.get_put_ne hp n2] at hq2
    exact h.inj j j' K K' q q' hK hK' hq1 hq2 l1 l2 hbb
  · intro j hj; rw [T.get_put_ne hp (by omega)]; exact h.top j hj
  · intro j hj hn
    have : j ≠ id := fun e => by subst e; rw [hL0] at hn; cases hn
    rw [T.get_put_ne hp this]
end Go.Ev

namespace Go.Ev
variable {P : Program} {G N : Nat}
theorem treeOf_get : ∀ {l : List TypeInfo} {i : Nat} {t t' : T TypeInfo}, treeOf l i t = some t' → ∀ j, t'.get j = if i ≤ j ∧ j < i + l.length then l[j - i]? else t.get j
  | [], i, t, t', h, j => by cases h; simp; omega
  | o :: l, i, t, t', h, j => by
    simp only [treeOf] at h
    split at h
    · rename_i H1 h1
      rw [treeOf_get h j, T.get_put h1]
      simp only [List.length_cons, Nat.succ_eq_add_one]
      by_cases e : j = i
      · subst e; simp; omega
      · by_cases e2 : i + 1 ≤ j ∧ j < i + 1 + l.length
        · have e3 : i ≤ j ∧ j < i + (l.length + 1) := by omega
          rw [if_pos e2, if_pos e3, show j - i = (j - (i + 1)) + 1 by omega, List.getElem?_cons_succ]
        · have e3 : ¬ (i ≤ j ∧ j < i + (l.length + 1)) := by omega
          rw [if_neg e2, if_neg e3, if_neg e]
    · cases h
theorem infoF_eq (P : Program) (t : Nat) : infoF P t = P.info? t := by
  unfold infoF
  cases h : (tyTree P).get t with
  | none => rfl
  | some i =>
    show some i = P.info? t
    have key : P.types[t]? = some i := by
      unfold tyTree at h
      split at h
      · rename_i t' ht
        rw [treeOf_get ht t] at h
        split at h
        · simpa using h
        · simp at h
      · simp at h
    have hlt : t < P.types.size := (Array.getElem?_eq_some_iff.1 key).1
    show some i = Tables.info? P.toTables t
    unfold Tables.info?
    rw [if_pos hlt]
    exact key.symm
theorem undF_eq (P : Program) (t : Nat) : undF P t = P.underlying t := by
  unfold undF Program.underlying
  rw [infoF_eq]
  cases P.info? t with
  | none => rfl
  | some i =>
    obtain ⟨d⟩ := i
    cases d with
    | named n u => simp only [infoF_eq]; cases P.info? u <;> rfl
    | _ => rfl
theorem tySizeY_eq : @tySizeY = @tySize := by funext P t; simp only [tySizeY, tySize, infoF_eq]
theorem tyAggY_eq : @tyAggY = @tyAgg := by funext P t; simp only [tyAggY, tyAgg, undF_eq]
theorem tyZeroY_eq : @tyZeroY = @tyZero := by funext P t; simp only [tyZeroY, tyZero, infoF_eq]
theorem smallBytesY_eq : @smallBytesY = @smallBytes := by funext P t; simp only [smallBytesY, smallBytes, infoF_eq]
theorem tyZeroCY_eq : @tyZeroCY = @tyZeroC := by funext P t; simp only [tyZeroCY, tyZeroC, tyZeroY_eq]
theorem tyFieldY_eq : @tyFieldY = @tyField := by funext P t f; simp only [tyFieldY, tyField, undF_eq]
theorem tySliceY_eq : @tySliceY = @tySlice := by funext P t; simp only [tySliceY, tySlice, undF_eq, tySizeY_eq]
theorem tyArrY_eq : @tyArrY = @tyArr := by funext P t; simp only [tyArrY, tyArr, undF_eq, tySizeY_eq]
theorem sizedY_eq : @sizedY = @sized := by
  funext P l; induction l with
  | nil => rfl
  | cons f l ih => simp only [sizedY, sized, tySizeY_eq, ih]
theorem partsSY_eq : @partsSY = @partsS := by
  funext P G t l; induction l with
  | nil => rfl
  | cons f l ih => obtain ⟨i, x⟩ := f; simp only [partsSY, partsS, tySizeY_eq, tyFieldY_eq, ih]
theorem partsAY_eq : @partsAY = @partsA := by
  funext G s l; induction l with
  | nil => rfl
  | cons f l ih => obtain ⟨i, x⟩ := f; simp only [partsAY, partsA, ih]
theorem eqSOfY_eq : @eqSOfY = @eqSOf := by funext P t; simp only [eqSOfY, eqSOf, undF_eq, tySizeY_eq]
theorem eqFieldsY_eq : @eqFieldsY = @eqFields := by
  funext P l; induction l with
  | nil => rfl
  | cons f l ih => simp only [eqFieldsY, eqFields, eqSOfY_eq, ih]
theorem eqKOfY_eq : @eqKOfY = @eqKOf := by funext P t c; simp only [eqKOfY, eqKOf, undF_eq, eqSOfY_eq, eqFieldsY_eq]
theorem keyKindY_eq : @keyKindY = @keyKind := by funext P t; simp only [keyKindY, keyKind, undF_eq]
theorem mapKindY_eq : @mapKindY = @mapKind := by funext P t; simp only [mapKindY, mapKind, undF_eq, keyKindY_eq]
theorem cConvertY_eq : @cConvertY = @cConvert := by funext P s d x; simp only [cConvertY, cConvert, undF_eq, tySizeY_eq]
theorem cBuiltinY_eq : @cBuiltinY = @cBuiltin := by funext P b ts xs; simp only [cBuiltinY, cBuiltin, undF_eq, tySizeY_eq, tySliceY_eq, tyZeroCY_eq, smallBytesY_eq, mapKindY_eq]
theorem cOpY_eq : @cOpY = @cOp := by
  funext P G op
  cases op <;> simp only [cOpY, cOp, undF_eq, tySizeY_eq, tyAggY_eq, tyZeroY_eq, smallBytesY_eq, tyZeroCY_eq, tyFieldY_eq, tySliceY_eq, tyArrY_eq, sizedY_eq, partsSY_eq, partsAY_eq, eqKOfY_eq, keyKindY_eq, mapKindY_eq, cConvertY_eq, cBuiltinY_eq] <;> rfl
theorem cOperY_eq : @cOperY = @cOper := by funext P G N ops o; simp only [cOperY, cOper, cOpY_eq]
theorem cOpersY_eq : @cOpersY = @cOpers := by
  funext P G N ops l; induction l with
  | nil => rfl
  | cons f l ih => simp only [cOpersY, cOpers, cOperY_eq, ih]
theorem mkPlsY_eq : @mkPlsY = @mkPls := by
  funext P G N ops all l; induction l with
  | nil => rfl
  | cons f l ih => simp only [mkPlsY, mkPls, cOperY_eq, ih]
theorem cDrawY_eq : @cDrawY = @cDraw := by funext P G N ops; simp only [cDrawY, cDraw, cOpersY_eq, mkPlsY_eq]
theorem cCodeY_eq : @cCodeY = @cCode := by
  funext P G N c
  induction c <;> simp only [cCodeY, cCode, cOpersY_eq, cDrawY_eq, *] <;> rfl
theorem cResY_eq : @cResY = @cRes := by
  funext P l; induction l with
  | nil => rfl
  | cons f l ih => cases f <;> simp only [cResY, cRes, tySizeY_eq, tyAggY_eq, ih] <;> rfl
end Go.Ev

namespace Go.Ev

theorem o1_some {α β : Type} {x : Option α} {f : α → Option β} {b : β} (h : o1 x f = some b) : ∃ a, x = some a ∧ f a = some b := by
  cases x with
  | none => cases h
  | some a => exact ⟨a, rfl, h⟩

theorem conv_sound (env : Env) : ∀ n, (∀ v x, conv n v = some x → VR env x v) ∧ (∀ l x, conv.convL n l = some x → VL env x l) := by
  intro n
  induction n with
  | zero =>
    refine ⟨fun v x h => by simp [conv] at h, fun l x h => ?_⟩
    cases l with
    | nil => simp [conv.convL] at h; subst h; rfl
    | cons a l => simp [conv.convL] at h
  | succ n ih =>
    obtain ⟨ih1, ih2⟩ := ih
    refine ⟨fun v x h => ?_, fun l x h => ?_⟩
    · unfold conv at h
      split at h
      · cases h; rfl
      · cases h; rfl
      · cases h; exact ⟨_, rfl, rfl⟩
      · cases h; rfl
      · cases h; rfl
      · cases h; rfl
      · cases h; rfl
      · cases h; rfl
      · split at h
        · rename_i e; cases h; exact ⟨_, rfl, ih1 _ _ e⟩
        · cases h
      · split at h
        · rename_i e; cases h; exact ⟨_, rfl, ih2 _ _ e⟩
        · cases h
      · split at h
        · rename_i e; cases h; exact ⟨_, rfl, ih2 _ _ e⟩
        · cases h
      · split at h
        · rename_i e e'; cases h; exact ⟨_, _, rfl, ih2 _ _ e, ih2 _ _ e'⟩
        · cases h
      · cases h
    · cases l with
      | nil => simp [conv.convL] at h; subst h; rfl
      | cons a l =>
        simp only [conv.convL] at h
        split at h
        · rename_i e e'; cases h; exact ⟨a, l, rfl, ih1 _ _ e, ih2 _ _ e'⟩
        · cases h

def TR (env : Env) (tm : T AV) (tmps : Array Value) : Prop := ∀ i v, tm.get i = some v → ∃ x, tmps[i]? = some x ∧ VR env v x
def GL (G : Nat) (env : Env) : Prop := ∀ g, g < G → ∃ L, env g = some L ∧ L.b = g ∧ L.base = 0

theorem TR.ext {env env' : Env} (h : Le env env') {tm : T AV} {t : Array Value} (ht : TR env tm t) : TR env' tm t := fun i v e => let ⟨x, a, b⟩ := ht i v e; ⟨x, a, b.ext h⟩
theorem GL.ext {env env' : Env} (h : Le env env') {G : Nat} (ht : GL G env) : GL G env' := fun g e => let ⟨x, a, b⟩ := ht g e; ⟨x, h _ _ a, b⟩

variable {P : Program} {G : Nat} {env : Env} {tm : T AV} {a : Act}

theorem opd_sound (hg : GL G env) (ht : TR env tm a.tmps) {x : Operand} {c : CO} (hc : opdOf G x = some c) {v : AV} (hv : opd tm c = some v) : VR env v (a.eval x) := by
  cases x with
  | tmp i =>
    simp only [opdOf, Option.some.injEq] at hc; subst hc
    obtain ⟨y, e, r⟩ := ht i v hv
    simpa [Act.eval, Array.getD_eq_getD_getElem?, e] using r
  | const u =>
    simp only [opdOf] at hc
    split at hc
    · rename_i x e; cases hc; cases hv; exact (conv_sound env _).1 _ _ e
    · cases hc
  | global g =>
    simp only [opdOf] at hc
    cases hb : Nat.blt g G with
    | false => simp [hb] at hc
    | true =>
      simp only [hb, cond_true, Option.some.injEq] at hc; subst hc; cases hv
      obtain ⟨L, e, hb', h0⟩ := hg g (by simpa using hb)
      exact ⟨L, e, by simp [Act.eval, hb', h0]⟩
  | func f => simp only [opdOf, Option.some.injEq] at hc; subst hc; cases hv; exact ⟨#[], #[], rfl, rfl, rfl⟩

theorem opds_sound (hg : GL G env) (ht : TR env tm a.tmps) : ∀ {l : List Operand} {c : List CO} (_ : opdsOf G l = some c) {v : AV} (_ : opds tm c = some v), VL env v (l.map a.eval) := by
  intro l
  induction l with
  | nil => intro c hc v hv; simp [opdsOf] at hc; subst hc; simp [opds] at hv; subst hv; rfl
  | cons x l ih =>
    intro c hc v hv
    simp only [opdsOf] at hc
    split at hc
    · rename_i y m e e'
      cases hc
      simp only [opds] at hv
      split at hv
      · rename_i z ez
        split at hv
        · rename_i zs ezs; cases hv; exact ⟨_, _, rfl, opd_sound hg ht e ez, ih e' ezs⟩
        · cases hv
      · cases hv
    · cases hc

/-! ### whole numbers -/
theorem kcode_inj {k j : IntKind} (h : Nat.beq (kcode k) (kcode j) = true) : k = j := by
  have h' : kcode k = kcode j := Nat.eq_of_beq_eq_true h
  cases k <;> cases j <;> first | rfl | (simp [kcode] at h')
theorem kcode_self (k : IntKind) : Nat.beq (kcode k) (kcode k) = true := Nat.beq_refl _

theorem kwrap_in (k : IntKind) (n : Int) (h : k.min ≤ n) (h' : n ≤ k.max) : k.wrap n = n := by
  cases k <;> simp [IntKind.min, IntKind.max, IntKind.wrap, IntKind.signed, IntKind.bits] at * <;> omega

theorem wrapF_eq (k : IntKind) (n : Int) : wrapF k n = k.wrap n := by
  cases n with
  | ofNat m =>
    show Bool.rec (motive := fun _ => Int) (k.wrap (.ofNat m)) (.ofNat m) (Nat.ble m (kmax k)) = _
    cases h : Nat.ble m (kmax k) with
    | false => rfl
    | true =>
      have h' : m ≤ kmax k := Nat.le_of_ble_eq_true h
      refine (kwrap_in k _ ?_ ?_).symm
      · cases k <;> simp [IntKind.min, IntKind.signed, IntKind.bits] <;> omega
      · cases k <;> simp [IntKind.max, IntKind.signed, IntKind.bits, kmax] at * <;> omega
  | negSucc m =>
    show Bool.rec (motive := fun _ => Int) (k.wrap (.negSucc m)) (.negSucc m) (Nat.blt m (kneg k)) = _
    cases h : Nat.blt m (kneg k) with
    | false => rfl
    | true =>
      have h' : m < kneg k := by simpa using h
      refine (kwrap_in k _ ?_ ?_).symm
      · cases k <;> simp [IntKind.min, IntKind.signed, IntKind.bits, kneg] at * <;> omega
      · cases k <;> simp [IntKind.max, IntKind.signed, IntKind.bits] <;> omega

theorem ieq_eq (a b : Int) : ieq a b = (a == b) := by
  cases a <;> cases b
  · rename_i m n; show Nat.beq m n = _; rw [Bool.eq_iff_iff]; simp; omega
  · rfl
  · rfl
  · rename_i m n; show Nat.beq m n = _; rw [Bool.eq_iff_iff]; simp
theorem ile_eq (a b : Int) : ile a b = decide (a ≤ b) := by
  cases a <;> cases b
  · rename_i m n; show Nat.ble m n = _; rw [Bool.eq_iff_iff]; simp
  · rename_i m n; show false = _; rw [Bool.eq_iff_iff]; simp; omega
  · rename_i m n; show true = _; rw [Bool.eq_iff_iff]; simp; omega
  · rename_i m n; show Nat.ble n m = _; rw [Bool.eq_iff_iff]; simp; omega
theorem iadd_eq (a b : Int) : iadd a b = a + b := by cases a <;> cases b <;> rfl
theorem imul_eq (a b : Int) : imul a b = a * b := by cases a <;> cases b <;> rfl
theorem ineg_eq (a : Int) : ineg a = -a := by cases a <;> rfl
end Go.Ev

namespace Go.Ev
variable {P : Program} {env : Env}

theorem bits_back (k : IntKind) (x y : Nat) (f : Nat → Nat → Nat) (r : BitVec k.bits) (hr : r.toNat = f x y) : (pure (.int k (k.wrap r.toNat)) : Sem Value) = pure (.int k (k.wrap (f x y : Nat))) := by rw [hr]

theorem strLess_sound : ∀ (x y : List UInt8), strLess (x.map (·.toNat)) (y.map (·.toNat)) = Op.bytesLess x y
  | _, [] => by cases ‹List UInt8› <;> rfl
  | [], _ :: _ => rfl
  | a :: x, b :: y => by
    simp only [List.map_cons, strLess, Op.bytesLess]
    rw [strLess_sound x y]
    have h1 : Nat.blt a.toNat b.toNat = decide (a < b) := by
      rw [Bool.eq_iff_iff]; simp [UInt8.lt_iff_toNat_lt]
    have h2 : Nat.beq a.toNat b.toNat = (a == b) := by
      rw [Bool.eq_iff_iff]; simp [← UInt8.toNat_inj]
    rw [h1, h2]
    by_cases p : a < b <;> by_cases q : a = b <;> simp [p, q]
theorem natsEq_eq : ∀ (x y : List Nat), natsEq x y = (x == y)
  | [], [] => rfl
  | [], _ :: _ => rfl
  | _ :: _, [] => rfl
  | a :: x, b :: y => by
    rw [natsEq, natsEq_eq x y]
    have : Nat.beq a b = (a == b) := by rw [Bool.eq_iff_iff]; simp
    rw [this]
    by_cases h : a = b <;> simp [h]
theorem map_toNat_inj {x y : List UInt8} : (x.map (·.toNat) == y.map (·.toNat)) = (x == y) := by
  rw [Bool.eq_iff_iff]
  simp only [beq_iff_eq]
  constructor
  · intro h
    induction x generalizing y with
    | nil => cases y with | nil => rfl | cons b y => simp at h
    | cons a x ih =>
      cases y with
      | nil => simp at h
      | cons b y =>
        simp only [List.map_cons, List.cons.injEq] at h
        rw [UInt8.toNat_inj.1 h.1, ih h.2]
  · intro h; rw [h]
theorem toList_data (s : ByteArray) : s.toList = s.data.toList := by rw [ByteArray.toList_eq]



theorem kbits_eq (k : IntKind) : kbits k = k.bits := by cases k <;> rfl
theorem kmax_lt (k : IntKind) : kmax k < 2 ^ k.bits := by cases k <;> simp [kmax, IntKind.bits]
theorem kmax_pow (k : IntKind) : ∃ n, kmax k = 2 ^ n - 1 := by
  cases k
  · exact ⟨7, rfl⟩
  · exact ⟨15, rfl⟩
  · exact ⟨31, rfl⟩
  · exact ⟨63, rfl⟩
  · exact ⟨8, rfl⟩
  · exact ⟨16, rfl⟩
  · exact ⟨32, rfl⟩
  · exact ⟨64, rfl⟩
theorem kwrap_nat (k : IntKind) (n : Nat) (h : n ≤ kmax k) : k.wrap (n : Int) = n := by
  refine kwrap_in k _ ?_ ?_
  · cases k <;> simp [IntKind.min, IntKind.signed, IntKind.bits] <;> omega
  · cases k <;> simp [IntKind.max, IntKind.signed, IntKind.bits, kmax] at * <;> omega
theorem ofInt_nat (k : IntKind) (n : Nat) (h : n ≤ kmax k) : (BitVec.ofInt k.bits (n : Int)).toNat = n := by
  have := kmax_lt k
  rw [BitVec.toNat_ofInt]
  have h2 : (n : Int) % (2 ^ k.bits : Nat) = n := Int.emod_eq_of_lt (by omega) (by exact_mod_cast (by omega : n < 2 ^ k.bits))
  rw [h2]; rfl
theorem nat2_and (k : IntKind) (x y : Nat) (hx : x ≤ kmax k) (hy : y ≤ kmax k) : (BitVec.ofInt k.bits (x : Int) &&& BitVec.ofInt k.bits (y : Int)).toNat = Nat.land x y ∧ Nat.land x y ≤ kmax k := by
  rw [BitVec.toNat_and, ofInt_nat k x hx, ofInt_nat k y hy]
  exact ⟨rfl, Nat.le_trans Nat.and_le_left hx⟩
theorem nat2_or (k : IntKind) (x y : Nat) (hx : x ≤ kmax k) (hy : y ≤ kmax k) : (BitVec.ofInt k.bits (x : Int) ||| BitVec.ofInt k.bits (y : Int)).toNat = Nat.lor x y ∧ Nat.lor x y ≤ kmax k := by
  rw [BitVec.toNat_or, ofInt_nat k x hx, ofInt_nat k y hy]
  obtain ⟨n, hn⟩ := kmax_pow k
  have p := Nat.two_pow_pos n
  have h : x ||| y < 2 ^ n := Nat.or_lt_two_pow (by omega) (by omega)
  exact ⟨rfl, by show x ||| y ≤ _; omega⟩
theorem nat2_xor (k : IntKind) (x y : Nat) (hx : x ≤ kmax k) (hy : y ≤ kmax k) : (BitVec.ofInt k.bits (x : Int) ^^^ BitVec.ofInt k.bits (y : Int)).toNat = Nat.xor x y ∧ Nat.xor x y ≤ kmax k := by
  rw [BitVec.toNat_xor, ofInt_nat k x hx, ofInt_nat k y hy]
  obtain ⟨n, hn⟩ := kmax_pow k
  have p := Nat.two_pow_pos n
  have h : x ^^^ y < 2 ^ n := Nat.xor_lt_two_pow (by omega) (by omega)
  exact ⟨rfl, by show x ^^^ y ≤ _; omega⟩
theorem nat2_andNot (k : IntKind) (x y : Nat) (hx : x ≤ kmax k) (hy : y ≤ kmax k) : (BitVec.ofInt k.bits (x : Int) &&& ~~~ BitVec.ofInt k.bits (y : Int)).toNat = Nat.xor x (Nat.land x y) ∧ Nat.xor x (Nat.land x y) ≤ kmax k := by
  have e : BitVec.ofInt k.bits (x : Int) &&& ~~~ BitVec.ofInt k.bits (y : Int) = BitVec.ofInt k.bits (x : Int) ^^^ (BitVec.ofInt k.bits (x : Int) &&& BitVec.ofInt k.bits (y : Int)) := by
    apply BitVec.eq_of_getLsbD_eq
    intro i hi
    simp only [BitVec.getLsbD_and, BitVec.getLsbD_not, BitVec.getLsbD_xor, hi, decide_true, Bool.true_and]
    cases (BitVec.ofInt k.bits (x : Int)).getLsbD i <;> cases (BitVec.ofInt k.bits (y : Int)).getLsbD i <;> rfl
  rw [e, BitVec.toNat_xor, BitVec.toNat_and, ofInt_nat k x hx, ofInt_nat k y hy]
  obtain ⟨n, hn⟩ := kmax_pow k
  have p := Nat.two_pow_pos n
  have h0 : x &&& y ≤ x := Nat.and_le_left
  have h : x ^^^ (x &&& y) < 2 ^ n := Nat.xor_lt_two_pow (by omega) (by omega)
  exact ⟨rfl, by show x ^^^ (x &&& y) ≤ _; omega⟩

theorem intOp_sound {op : BinOp} {k : IntKind} {a b : Int} {v : AV} (h : intOp op k a b = some v) (hs : op ≠ .shl) (hr : op ≠ .shr) (t : Nat) (w : World) : ∃ c, (binOp op t (.int k a) (.int k b)).run P w = .ok c w ∧ VR env v c := by
  cases op <;> simp only [intOp] at h <;> first | (exact absurd rfl hs) | (exact absurd rfl hr) | (cases h; done) | skip
  case add => cases h; exact ⟨.int k (k.wrap (a + b)), by simp [binOp, Op.intArith], by simp [VR, wrapF_eq, iadd_eq]⟩
  case sub => cases h; exact ⟨.int k (k.wrap (a - b)), by simp [binOp, Op.intArith], by simp [VR, wrapF_eq, iadd_eq, ineg_eq, Int.sub_eq_add_neg]⟩
  case mul => cases h; exact ⟨.int k (k.wrap (a * b)), by simp [binOp, Op.intArith], by simp [VR, wrapF_eq, imul_eq]⟩
  case quo =>
    split at h
    · cases h
      rename_i x y
      refine ⟨.int k (k.wrap (Int.tdiv (x : Int) ((y + 1 : Nat) : Int))), ?_, ?_⟩
      · have h0 : ¬ (Int.ofNat (y + 1) = 0) := by simp; omega
        simp only [binOp, Op.intDiv, ne_eq, not_true_eq_false, if_false, h0, Sem.run_pure]
        rfl
      · simp only [VR, wrapF_eq]
        rfl
    · cases h
    · rename_i h0 h1
      cases h
      have hb : b ≠ 0 := by rintro rfl; first | exact h1 rfl | exact h0 rfl | exact h1 0 rfl
      exact ⟨.int k (k.wrap (a.tdiv b)), by simp [binOp, Op.intDiv, hb], by simp [VR, wrapF_eq]⟩
  case rem =>
    split at h
    · cases h
      rename_i x y
      refine ⟨.int k (Int.tmod (x : Int) ((y + 1 : Nat) : Int)), ?_, ?_⟩
      · have h0 : ¬ (Int.ofNat (y + 1) = 0) := by simp; omega
        simp only [binOp, Op.intDiv, ne_eq, not_true_eq_false, if_false, h0, Sem.run_pure]
        rfl
      · simp only [VR]
        rfl
    · cases h
    · rename_i h0 h1
      cases h
      have hb : b ≠ 0 := by rintro rfl; first | exact h1 rfl | exact h0 rfl | exact h1 0 rfl
      exact ⟨.int k (a.tmod b), by simp [binOp, Op.intDiv, hb], by simp [VR]⟩
  case lss => cases h; exact ⟨.bool (decide (a < b)), by simp [binOp, Op.intCmp], by simp [VR, ile_eq]; rw [Bool.eq_iff_iff]; simp⟩
  case leq => cases h; exact ⟨.bool (decide (a ≤ b)), by simp [binOp, Op.intCmp], by simp [VR, ile_eq]⟩
  case gtr => cases h; exact ⟨.bool (decide (b < a)), by simp [binOp, Op.intCmp], by simp [VR, ile_eq]; rw [Bool.eq_iff_iff]; simp⟩
  case geq => cases h; exact ⟨.bool (decide (b ≤ a)), by simp [binOp, Op.intCmp], by simp [VR, ile_eq]⟩
  all_goals
    unfold nat2 at h
    split at h
    case h_2 => cases h
    rename_i x y
    cases hb : (Nat.ble x (kmax k) && Nat.ble y (kmax k)) with
    | false => simp [hb] at h
    | true =>
      simp only [hb, cond_true, Option.some.injEq] at h
      subst h
      simp only [Bool.and_eq_true, Nat.ble_eq] at hb
      obtain ⟨hx, hy⟩ := hb
      first
        | (obtain ⟨e, f⟩ := nat2_and k x y hx hy; exact ⟨.int k (k.wrap ((Nat.land x y : Nat) : Int)), by simp only [binOp, Op.intBits, ne_eq, not_true_eq_false, if_false, Sem.run_pure]; rw [show (Int.ofNat x) = (x : Int) from rfl, show (Int.ofNat y) = (y : Int) from rfl, e], by show Value.int k _ = Value.int k _; rw [kwrap_nat k _ f]; rfl⟩)
        | (obtain ⟨e, f⟩ := nat2_or k x y hx hy; exact ⟨.int k (k.wrap ((Nat.lor x y : Nat) : Int)), by simp only [binOp, Op.intBits, ne_eq, not_true_eq_false, if_false, Sem.run_pure]; rw [show (Int.ofNat x) = (x : Int) from rfl, show (Int.ofNat y) = (y : Int) from rfl, e], by show Value.int k _ = Value.int k _; rw [kwrap_nat k _ f]; rfl⟩)
        | (obtain ⟨e, f⟩ := nat2_xor k x y hx hy; exact ⟨.int k (k.wrap ((Nat.xor x y : Nat) : Int)), by simp only [binOp, Op.intBits, ne_eq, not_true_eq_false, if_false, Sem.run_pure]; rw [show (Int.ofNat x) = (x : Int) from rfl, show (Int.ofNat y) = (y : Int) from rfl, e], by show Value.int k _ = Value.int k _; rw [kwrap_nat k _ f]; rfl⟩)
        | (obtain ⟨e, f⟩ := nat2_andNot k x y hx hy; exact ⟨.int k (k.wrap ((Nat.xor x (Nat.land x y) : Nat) : Int)), by simp only [binOp, Op.intBits, ne_eq, not_true_eq_false, if_false, Sem.run_pure]; rw [show (Int.ofNat x) = (x : Int) from rfl, show (Int.ofNat y) = (y : Int) from rfl, e], by show Value.int k _ = Value.int k _; rw [kwrap_nat k _ f]; rfl⟩)

theorem shift_sound {op : BinOp} {k j : IntKind} {a b : Int} {v : AV} (h : intOp op k a b = some v) (hs : op = .shl ∨ op = .shr) (t : Nat) (w : World) : ∃ c, (binOp op t (.int k a) (.int j b)).run P w = .ok c w ∧ VR env v c := by
  rcases hs with rfl | rfl
  · simp only [intOp] at h
    split at h
    · rename_i x y
      cases hb : Nat.ble y (kbits k) with
      | false => simp [hb] at h
      | true =>
        simp only [hb, cond_true, Option.some.injEq] at h
        subst h
        have hy : y ≤ k.bits := by rw [← kbits_eq]; exact Nat.le_of_ble_eq_true hb
        refine ⟨.int k (k.wrap ((x : Int) * 2 ^ y)), ?_, ?_⟩
        · have h0 : ¬ (Int.ofNat y < 0) := by simp
          have hm : min (Int.ofNat y).toNat k.bits = y := Nat.min_eq_left hy
          simp only [binOp, Op.shift, h0, if_false, hm, Sem.run_pure]
          rfl
        · simp only [VR, wrapF_eq]
          have : (Int.ofNat (Nat.mul x (Nat.pow 2 y))) = (x : Int) * 2 ^ y := by
            show ((x * 2 ^ y : Nat) : Int) = _
            simp
          rw [this]
    · cases h
  · simp only [intOp] at h
    split at h
    · rename_i x y
      cases hb : Nat.ble y (kbits k) with
      | false => simp [hb] at h
      | true =>
        simp only [hb, cond_true, Option.some.injEq] at h
        subst h
        have hy : y ≤ k.bits := by rw [← kbits_eq]; exact Nat.le_of_ble_eq_true hb
        refine ⟨.int k (Int.fdiv (x : Int) (2 ^ y)), ?_, ?_⟩
        · have h0 : ¬ (Int.ofNat y < 0) := by simp
          have hm : min (Int.ofNat y).toNat k.bits = y := Nat.min_eq_left hy
          simp only [binOp, Op.shift, h0, if_false, hm, Sem.run_pure]
          rfl
        · simp only [VR]
          have : (Int.ofNat (Nat.div x (Nat.pow 2 y))) = Int.fdiv (x : Int) (2 ^ y) := by
            rw [Int.fdiv_eq_ediv_of_nonneg _ (by exact_mod_cast Nat.zero_le _)]
            show ((x / 2 ^ y : Nat) : Int) = _
            simp
          rw [this]
    · cases h

theorem strOp_sound {op : BinOp} {x y : List Nat} {v : AV} (h : strOp op x y = some v) {s u : ByteArray} (hx : s.data.toList.map (·.toNat) = x) (hy : u.data.toList.map (·.toNat) = y) (t : Nat) (w : World) : ∃ c, (binOp op t (.string s) (.string u)).run P w = .ok c w ∧ VR env v c := by
  subst hx hy
  have hl : Op.bytesLess s.toList u.toList = strLess (s.data.toList.map (·.toNat)) (u.data.toList.map (·.toNat)) := by rw [toList_data, toList_data, strLess_sound]
  have hl' : Op.bytesLess u.toList s.toList = strLess (u.data.toList.map (·.toNat)) (s.data.toList.map (·.toNat)) := by rw [toList_data, toList_data, strLess_sound]
  have tri : ∀ a b : List UInt8, (Op.bytesLess a b || a == b) = !Op.bytesLess b a := by
    intro a
    induction a with
    | nil => intro b; cases b <;> simp [Op.bytesLess]
    | cons p a ih =>
      intro b
      cases b with
      | nil => simp [Op.bytesLess]
      | cons q b =>
        have := ih b
        simp only [Op.bytesLess]
        by_cases e : p = q
        · subst e
          have hlt : ¬ p < p := by simp [UInt8.lt_iff_toNat_lt]
          simp only [hlt, decide_false, beq_self_eq_true, Bool.true_and, Bool.false_or]
          rw [← this]
          simp
        · have e' : ¬ q = p := fun x => e x.symm
          rcases Nat.lt_trichotomy p.toNat q.toNat with c | c | c
          · have h1 : p < q := UInt8.lt_iff_toNat_lt.2 c
            have h2 : ¬ q < p := fun z => by have := UInt8.lt_iff_toNat_lt.1 z; omega
            simp [h1, h2, e, e']
          · exact absurd (UInt8.toNat_inj.1 c) e
          · have h1 : q < p := UInt8.lt_iff_toNat_lt.2 c
            have h2 : ¬ p < q := fun z => by have := UInt8.lt_iff_toNat_lt.1 z; omega
            simp [h1, h2, e, e']
  cases op <;> simp only [strOp] at h <;> first | (cases h; done) | skip
  case add =>
    cases hb : Nat.ble (Nat.add (s.data.toList.map (·.toNat)).length (u.data.toList.map (·.toNat)).length) 1000000 with
    | false => rw [hb] at h; cases h
    | true =>
    rw [hb] at h
    simp only [cond_true, Option.some.injEq] at h
    subst h
    have hb' : s.size + u.size ≤ 1000000 := by
      have := Nat.le_of_ble_eq_true hb
      simpa using this
    refine ⟨.string (s ++ u), ?_, ⟨_, rfl, by simp⟩⟩
    have h0 : ¬ (((s.size + u.size : Nat) : Int) > IntKind.i64.max) := by simp [IntKind.max, IntKind.signed, IntKind.bits]; omega
    simp only [binOp, Op.stringOp, h0, if_false, Sem.run_pure]
  case lss => cases h; exact ⟨.bool (Op.bytesLess s.toList u.toList), by simp [binOp, Op.stringOp], by simp [VR, hl]⟩
  case leq => cases h; exact ⟨.bool (Op.bytesLess s.toList u.toList || s.toList == u.toList), by simp [binOp, Op.stringOp], by rw [tri, hl']; rfl⟩
  case gtr => cases h; exact ⟨.bool (!(Op.bytesLess s.toList u.toList || s.toList == u.toList)), by simp [binOp, Op.stringOp], by rw [tri, hl', Bool.not_not]; rfl⟩
  case geq => cases h; exact ⟨.bool (!Op.bytesLess s.toList u.toList), by simp [binOp, Op.stringOp], by rw [hl]; rfl⟩
end Go.Ev

namespace Go.Ev
variable {P : Program} {env : Env}

/-- the kind of equality that a type has -/
def EqTy (P : Program) (k : EqS) (t : Nat) : Prop :=
  match k with
  | .bool => P.underlying t = some .bool
  | .int => ∃ j, P.underlying t = some (.int j)
  | .str => P.underlying t = some .string
  | .ptr => ∃ e n i, P.underlying t = some (.pointer e) ∧ P.info? e = some i ∧ i.size = n + 1
  | .slice => ∃ e, P.underlying t = some (.slice e)
  | .map => ∃ j e, P.underlying t = some (.map j e)
  | .func => ∃ a b c, P.underlying t = some (.func a b c)
  | .iface => ∃ m, P.underlying t = some (.interface m)

theorem eqSOf_ty {t : Nat} {k : EqS} (h : eqSOf P t = some k) : EqTy P k t := by
  unfold eqSOf at h
  split at h <;> first | (cases h; simp only [EqTy]; first | assumption | exact ⟨_, ‹_›⟩ | exact ⟨_, _, ‹_›⟩ | exact ⟨_, _, _, ‹_›⟩) | skip
  · rename_i e he
    split at h
    · rename_i n hn
      cases h
      unfold tySize at hn
      split at hn
      · rename_i i hi; exact ⟨e, n, i, he, hi, Option.some.inj hn⟩
      · cases hn
    · cases h
  · cases h

theorem oge_lt {lo : Option Int} {b n : Int} (hl : ∀ l, lo = some l → l ≤ n) (h : oge lo b = true) : b < n := by
  cases lo with
  | none => cases h
  | some l => have := hl l rfl; simp only [oge, ile_eq, Bool.not_eq_true', decide_eq_false_iff_not] at h; omega
theorem ole_lt {hi : Option Int} {b n : Int} (hh : ∀ l, hi = some l → n ≤ l) (h : ole hi b = true) : n < b := by
  cases hi with
  | none => cases h
  | some l => have := hh l rfl; simp only [ole, ile_eq, Bool.not_eq_true', decide_eq_false_iff_not] at h; omega
theorem ogE_le {lo : Option Int} {b n : Int} (hl : ∀ l, lo = some l → l ≤ n) (h : ogE lo b = true) : b ≤ n := by
  cases lo with
  | none => cases h
  | some l => have := hl l rfl; simp only [ogE, ile_eq, decide_eq_true_eq] at h; omega
theorem olE_le {hi : Option Int} {b n : Int} (hh : ∀ l, hi = some l → n ≤ l) (h : olE hi b = true) : n ≤ b := by
  cases hi with
  | none => cases h
  | some l => have := hh l rfl; simp only [olE, ile_eq, decide_eq_true_eq] at h; omega
theorem rng_ne {lo hi : Option Int} {b n : Int} (hl : ∀ l, lo = some l → l ≤ n) (hh : ∀ l, hi = some l → n ≤ l) (h : (oge lo b || ole hi b) = true) : ¬ n = b := by
  simp only [Bool.or_eq_true] at h
  rcases h with h | h
  · have := oge_lt hl h; omega
  · have := ole_lt hh h; omega
theorem rngOp_sound {op : BinOp} {lo hi : Option Int} {b n : Int} (hl : ∀ l, lo = some l → l ≤ n) (hh : ∀ l, hi = some l → n ≤ l) {v : AV} (h : rngOp op lo hi b = some v) (t : Nat) (w : World) :
    ∃ c, (binOp op t (.int .i64 n) (.int .i64 b)).run P w = .ok c w ∧ VR env v c := by
  cases op <;> simp only [rngOp, cond_eq_ite] at h <;> first | (cases h; done) | skip
  · split at h
    · rename_i e; cases h; have := ole_lt hh e; exact ⟨.bool true, by simp [binOp, Op.intCmp, this], rfl⟩
    · split at h
      · rename_i e; cases h; have := ogE_le hl e; exact ⟨.bool false, by simp [binOp, Op.intCmp, this], rfl⟩
      · cases h
  · split at h
    · rename_i e; cases h; have := olE_le hh e; exact ⟨.bool true, by simp [binOp, Op.intCmp, this], rfl⟩
    · split at h
      · rename_i e; cases h; have := oge_lt hl e; exact ⟨.bool false, by simp [binOp, Op.intCmp, this], rfl⟩
      · cases h
  · split at h
    · rename_i e; cases h; have := oge_lt hl e; exact ⟨.bool true, by simp [binOp, Op.intCmp, this], rfl⟩
    · split at h
      · rename_i e; cases h; have := olE_le hh e; exact ⟨.bool false, by simp [binOp, Op.intCmp, this], rfl⟩
      · cases h
  · split at h
    · rename_i e; cases h; have := ogE_le hl e; exact ⟨.bool true, by simp [binOp, Op.intCmp, this], rfl⟩
    · split at h
      · rename_i e; cases h; have := ole_lt hh e; exact ⟨.bool false, by simp [binOp, Op.intCmp, this], rfl⟩
      · cases h

theorem underlying_run {t : Nat} {d : TypeDesc} (h : P.underlying t = some d) (w : World) : (underlying t).run P w = .ok d w := by
  simp [underlying, h]

set_option maxHeartbeats 4000000 in
theorem eqS_sound {k : EqS} {x y : AV} {b : Bool} (h : eqSA k x y = some b) {u v : Value} (hx : VR env x u) (hy : VR env y v) {t : Nat} (ht : EqTy P k t) (d : Nat) (w : World) :
    (Op.equalIn (d + 1) t u v).run P w = .ok b w := by
  have U : ∀ {dd}, P.underlying t = some dd → (underlying t).run P w = .ok dd w := fun e => underlying_run e w
  cases k <;> simp only [eqSA] at h
  case int =>
    obtain ⟨j, hj⟩ := ht
    split at h
    · rename_i k1 a k2 c
      cases hx; cases hy
      cases hk : Nat.beq (kcode k1) (kcode k2) with
      | false => rw [hk] at h; cases h
      | true =>
        rw [hk] at h
        cases h
        cases kcode_inj hk
        rw [ieq_eq]
        simp [Op.equalIn, U hj]
    · obtain ⟨n, rfl, hl, hh⟩ := hx
      rename_i lo hi c
      cases hy
      cases hb : (oge lo c || ole hi c) <;> rw [hb] at h <;> cases h
      have := rng_ne hl hh hb
      simp [Op.equalIn, U hj, this]
    · cases h
  case str =>
    have ht' : P.underlying t = some .string := ht
    split at h
    · obtain ⟨s, rfl, rfl⟩ := hx; obtain ⟨s', rfl, rfl⟩ := hy
      cases h
      simp only [Op.equalIn, Sem.run_bind, U ht', Result.andThen_ok, Sem.run_pure, natsEq_eq, map_toNat_inj]
      congr 1
      show (s.data == s'.data) = _
      rw [Bool.eq_iff_iff]
      simp [← Array.toList_inj]
    · cases h
  case bool =>
    have ht' : P.underlying t = some .bool := ht
    split at h
    · rename_i a c
      cases hx; cases hy; cases h
      cases a <;> cases c <;> simp [Op.equalIn, U ht']
    · cases h
  case ptr =>
    obtain ⟨e, n, i, he, hi, hs⟩ := ht
    have hsz : (sizeOf e).run P w = .ok (n + 1) w := by simp [sizeOf, typeInfo, hi, hs]
    split at h
    · cases hx; cases hy; cases h; simp [Op.equalIn, U he]
    · cases hx; obtain ⟨L, _, rfl⟩ := hy; cases h; simp [Op.equalIn, U he]
    · cases hy; obtain ⟨L, _, rfl⟩ := hx; cases h; simp [Op.equalIn, U he]
    · rename_i i1 o i2 q
      obtain ⟨L, hL, rfl⟩ := hx; obtain ⟨L', hL', rfl⟩ := hy
      cases hk : Nat.beq i1 i2 with
      | false => rw [hk] at h; cases h
      | true =>
        rw [hk] at h; cases h
        cases Nat.eq_of_beq_eq_true hk
        rw [hL] at hL'; cases hL'
        simp only [Op.equalIn, Sem.run_bind, U he, hsz, Result.andThen_ok]
        simp [sameAddr]
        rw [Bool.eq_iff_iff]; simp
    · cases h
  case slice =>
    obtain ⟨e, he⟩ := ht
    split at h
    · cases hx; cases hy; cases h; simp [Op.equalIn, U he]
    · cases hx; obtain ⟨L, c, _, rfl, _⟩ := hy; cases h; simp [Op.equalIn, U he]
    · cases hy; obtain ⟨L, c, _, rfl, _⟩ := hx; cases h; simp [Op.equalIn, U he]
    · cases hx; obtain ⟨a, c, rfl⟩ := hy; cases h; simp [Op.equalIn, U he]
    · cases hy; obtain ⟨a, c, rfl⟩ := hx; cases h; simp [Op.equalIn, U he]
    · cases h
  case map =>
    obtain ⟨j, e, he⟩ := ht
    split at h
    · cases hx; cases hy; cases h; simp [Op.equalIn, U he]
    · cases hx; obtain ⟨L, _, rfl⟩ := hy; cases h; simp [Op.equalIn, U he]
    · cases hy; obtain ⟨L, _, rfl⟩ := hx; cases h; simp [Op.equalIn, U he]
    · cases h
  case func =>
    obtain ⟨a, b', c, he⟩ := ht
    split at h
    · cases hx; cases hy; cases h; simp [Op.equalIn, U he]
    · cases hx; obtain ⟨p, q, rfl, _⟩ := hy; cases h; simp [Op.equalIn, U he]
    · cases hy; obtain ⟨p, q, rfl, _⟩ := hx; cases h; simp [Op.equalIn, U he]
    · cases h
  case iface =>
    obtain ⟨m, he⟩ := ht
    split at h
    · cases hx; cases hy; cases h; simp [Op.equalIn, U he]
    · cases hx; obtain ⟨p, rfl, _⟩ := hy; cases h; simp [Op.equalIn, U he]
    · cases hy; obtain ⟨p, rfl, _⟩ := hx; cases h; simp [Op.equalIn, U he]
    · cases h

def plainEq (u v : Value) : Bool := match u, v with | .int .., .int .. | .float .., .float .. | .complex .., .complex .. | .string _, .string _ => false | _, _ => true
theorem eql_plain {u v : Value} (h : plainEq u v = true) (t : Nat) : binOp .eql t u v = (do pure (.bool (← Op.equal t u v))) := by
  cases u <;> cases v <;> first | rfl | (cases h; done)
theorem neq_plain {u v : Value} (h : plainEq u v = true) (t : Nat) : binOp .neq t u v = (do pure (.bool (!(← Op.equal t u v)))) := by
  cases u <;> cases v <;> first | rfl | (cases h; done)

set_option maxHeartbeats 4000000 in
theorem eqS_bin {k : EqS} {x y : AV} {b : Bool} (h : eqSA k x y = some b) {u v : Value} (hx : VR env x u) (hy : VR env y v) {t : Nat} (ht : EqTy P k t) (w : World) :
    (binOp .eql t u v).run P w = .ok (.bool b) w ∧ (binOp .neq t u v).run P w = .ok (.bool (!b)) w := by
  have he := eqS_sound h hx hy ht 9999 w
  have fin : plainEq u v = true → (binOp .eql t u v).run P w = .ok (.bool b) w ∧ (binOp .neq t u v).run P w = .ok (.bool (!b)) w := by
    intro hp
    have he' : (Op.equal t u v).run P w = .ok b w := he
    rw [eql_plain hp, neq_plain hp]
    simp [he']
  cases k <;> simp only [eqSA] at h
  case int =>
    split at h
    · rename_i k1 a k2 c
      cases hx; cases hy
      cases hk : Nat.beq (kcode k1) (kcode k2) with
      | false => rw [hk] at h; cases h
      | true =>
        rw [hk] at h
        cases h
        cases kcode_inj hk
        rw [ieq_eq]
        simp [binOp, Op.intCmp, bne]
    · obtain ⟨n, rfl, hl, hh⟩ := hx
      rename_i lo hi c
      cases hy
      cases hb : (oge lo c || ole hi c) <;> rw [hb] at h <;> cases h
      have := rng_ne hl hh hb
      simp [binOp, Op.intCmp, bne, this]
    · cases h
  case str =>
    split at h
    · obtain ⟨s, rfl, rfl⟩ := hx; obtain ⟨s', rfl, rfl⟩ := hy
      cases h
      simp [binOp, Op.stringOp, natsEq_eq, map_toNat_inj, toList_data]
    · cases h
  case bool => split at h; cases hx; cases hy; exact fin rfl; cases h
  case ptr =>
    split at h
    · cases hx; exact fin rfl
    · cases hx; exact fin rfl
    · obtain ⟨L, _, rfl⟩ := hx; exact fin rfl
    · obtain ⟨L, _, rfl⟩ := hx; exact fin rfl
    · cases h
  case slice =>
    split at h
    · cases hx; exact fin rfl
    · cases hx; exact fin rfl
    · obtain ⟨L, c, _, rfl, _⟩ := hx; exact fin rfl
    · cases hx; exact fin rfl
    · obtain ⟨a, c, rfl⟩ := hx; exact fin rfl
    · cases h
  case map =>
    split at h
    · cases hx; exact fin rfl
    · cases hx; exact fin rfl
    · obtain ⟨L, _, rfl⟩ := hx; exact fin rfl
    · cases h
  case func =>
    split at h
    · cases hx; exact fin rfl
    · cases hx; exact fin rfl
    · obtain ⟨p, q, rfl, _⟩ := hx; exact fin rfl
    · cases h
  case iface =>
    split at h
    · cases hx; exact fin rfl
    · cases hx; exact fin rfl
    · obtain ⟨p, rfl, _⟩ := hx; exact fin rfl
    · cases h

theorem part_scalar {t : Nat} {k : EqS} (ht : EqTy P k t) {xs : Array Value} {o : Nat} {c : Value} (h : xs.toList[o]? = some c) (w : World) : (part t xs o).run P w = .ok c w := by
  have ha : (isAgg t).run P w = .ok false w := by
    cases k <;> simp only [EqTy] at ht
    case bool => simp [isAgg, underlying_run ht]
    case int => obtain ⟨j, ht⟩ := ht; simp [isAgg, underlying_run ht]
    case str => simp [isAgg, underlying_run ht]
    case ptr => obtain ⟨e, n, i, ht, _⟩ := ht; simp [isAgg, underlying_run ht]
    case slice => obtain ⟨e, ht⟩ := ht; simp [isAgg, underlying_run ht]
    case map => obtain ⟨e, j, ht⟩ := ht; simp [isAgg, underlying_run ht]
    case func => obtain ⟨e, j, _, ht⟩ := ht; simp [isAgg, underlying_run ht]
    case iface => obtain ⟨e, ht⟩ := ht; simp [isAgg, underlying_run ht]
  have h' : xs[o]? = some c := by simpa using h
  simp [part, ha, h']

theorem eqF_sound {x y : AV} {u v : Array Value} (hx : VL env x u.toList) (hy : VL env y v.toList) (d : Nat) (w : World) : ∀ {fs : List Field} {l : List (Nat × EqS)} {b : Bool}, eqFields P fs = some l → eqFA x y l = some b →
    (Op.eqFields (d + 1) u v fs).run P w = .ok b w
  | [], l, b, h, hb => by simp [eqFields] at h; subst h; simp [eqFA] at hb; subst hb; simp [Op.eqFields]
  | f :: fs, l, b, h, hb => by
    simp only [eqFields] at h
    split at h
    · rename_i k m hk hm
      cases hn : (f.name == "_") with
      | true => rw [hn] at h; cases h
      | false =>
        rw [hn] at h; cases h
        simp only [eqFA] at hb
        split at hb
        · rename_i a c ha hc
          obtain ⟨p, hp, hp'⟩ := hx.nth ha
          obtain ⟨q, hq, hq'⟩ := hy.nth hc
          have ty := eqSOf_ty hk
          have hne : f.name ≠ "_" := by simpa using hn
          simp only [Op.eqFields, ne_eq, hne, not_false_eq_true, if_true, Sem.run_bind, part_scalar ty hp w, part_scalar ty hq w, Result.andThen_ok]
          split at hb
          · rename_i e
            simp only [eqS_sound e hp' hq' ty d w, Result.andThen_ok, Bool.not_true, Bool.false_eq_true, if_false]
            exact eqF_sound hx hy d w hm hb
          · rename_i r e
            cases b with
            | true => exact absurd hb e
            | false => simp [eqS_sound hb hp' hq' ty d w]
        · cases hb
    · cases h

theorem guard_const {X Y : Operand} (hc : (Region.isConst X || Region.isConst Y) = true) (op : BinOp) (t : Nat) (w : World) : (eqGuard op t X Y .nilIface .nilIface).run P w = .ok () w := by
  cases op <;> first | rfl | (cases X <;> cases Y <;> first | rfl | (cases hc; done))

theorem eqK_sound {t : Nat} {k : EqK} {X Y : Operand} (hk : eqKOf P t (Region.isConst X || Region.isConst Y) = some k) {x y : AV} {b : Bool} (h : eqKA k x y = some b) {u v : Value} (hx : VR env x u) (hy : VR env y v) (w : World) (op : BinOp) :
    (eqGuard op t X Y u v).run P w = .ok () w ∧ (binOp .eql t u v).run P w = .ok (.bool b) w ∧ (binOp .neq t u v).run P w = .ok (.bool (!b)) w := by
  unfold eqKOf at hk
  have gS : ∀ {q : EqS}, EqTy P q t → eqSA q x y = some b → (q = .iface → (Region.isConst X || Region.isConst Y) = true) → (eqGuard op t X Y u v).run P w = .ok () w := by
    intro q hq hs hc
    have hna : ∀ cs, u ≠ .agg cs := by
      intro cs e; subst e
      cases q <;> simp only [eqSA] at hs <;> (split at hs <;> (try simp only [VR] at hx) <;> first | (cases hs; done) | (cases hx; done) | (obtain ⟨_, e, _⟩ := hx; cases e; done) | (obtain ⟨_, _, e⟩ := hx; cases e; done) | (obtain ⟨_, _, e, _⟩ := hx; cases e; done) | (obtain ⟨_, _, _, e, _⟩ := hx; cases e; done))
    by_cases hn : u = .nilIface ∧ v = .nilIface
    · obtain ⟨rfl, rfl⟩ := hn
      have hqi : q = .iface := by
        cases q <;> simp only [eqSA] at hs <;> (split at hs <;> (try simp only [VR] at hx) <;> first | rfl | (cases hs; done) | (cases hx; done) | (obtain ⟨_, e, _⟩ := hx; cases e; done) | (obtain ⟨_, _, e⟩ := hx; cases e; done) | (obtain ⟨_, _, e, _⟩ := hx; cases e; done) | (obtain ⟨_, _, _, e, _⟩ := hx; cases e; done))
      have hc := hc hqi
      exact guard_const hc op t w
    · cases op <;> first | rfl | (cases u <;> cases v <;> first | rfl | exact absurd ⟨rfl, rfl⟩ hn | exact absurd rfl (hna _))
  split at hk
  · rename_i e
    cases hc : (Region.isConst X || Region.isConst Y) with
    | false => rw [hc] at hk; cases hk
    | true =>
      rw [hc] at hk; cases hk
      have h' : eqSA .iface x y = some b := h
      exact ⟨gS (eqSOf_ty e) h' (fun _ => hc), eqS_bin h' hx hy (eqSOf_ty e) w⟩
  · rename_i q hne e
    cases hk
    have h' : eqSA q x y = some b := h
    exact ⟨gS (eqSOf_ty e) h' (fun e' => absurd e' (by rintro rfl; first | exact hne e | exact hne rfl)), eqS_bin h' hx hy (eqSOf_ty e) w⟩
  · split at hk
    · rename_i fs hfs
      cases hg : (P.stoodInHeld t || P.eqGuardType P.depth t) with
      | true => rw [hg] at hk; cases hk
      | false =>
        rw [hg] at hk
        simp only [cond_false] at hk
        split at hk
        · rename_i l hl
          cases hk
          simp only [Bool.or_eq_false_iff] at hg
          simp only [eqKA] at h
          split at h
          · obtain ⟨xs, rfl, hxs⟩ := hx; obtain ⟨ys, rfl, hys⟩ := hy
            have hfo : P.fieldsOf t = fs := by simp [Program.fieldsOf, hfs]
            have key := run_equalIn_struct w 9999 t xs ys (by rw [hfo]; exact hfs) hg.1
            rw [hfo, eqF_sound hxs hys 9998 w hl h] at key
            refine ⟨run_eqGuard_agg w op t X Y xs ys hg.2, ?_, ?_⟩
            · rw [eql_plain rfl]; simp [Op.equal, Op.maxDepth, key]
            · rw [neq_plain rfl]; simp [Op.equal, Op.maxDepth, key]
          · cases h
        · cases hk
    · cases hk
end Go.Ev

namespace Go.Ev
variable {P : Program} {G : Nat} {env : Env} {tm : T AV} {a : Act}

theorem tySize_info {t n : Nat} (h : tySize P t = some n) : ∃ i, P.info? t = some i ∧ i.size = n := by
  unfold tySize at h
  split at h
  · rename_i i hi; exact ⟨i, hi, Option.some.inj h⟩
  · cases h
theorem sizeOf_run {t n : Nat} (h : tySize P t = some n) (w : World) : (sizeOf t).run P w = .ok n w := by
  obtain ⟨i, hi, rfl⟩ := tySize_info h
  simp [sizeOf, typeInfo, hi]
theorem isAgg_run {t : Nat} {g : Bool} (h : tyAgg P t = some g) (w : World) : (isAgg t).run P w = .ok g w := by
  unfold tyAgg at h
  split at h
  · rename_i fs e; cases h; simp [isAgg, underlying_run e]
  · rename_i n e' e; cases h; simp [isAgg, underlying_run e]
  · rename_i d h1 h2 e
    cases h
    simp only [isAgg, Sem.run_bind, underlying_run e, Result.andThen_ok]
    cases d <;> first | rfl | exact absurd rfl (h1 _) | exact absurd rfl (h2 _ _)
  · cases h
theorem zero_run {t : Nat} {z : AV} (h : tyZero P t = some z) (w : World) : ∃ v, (zeroValue t).run P w = .ok v w ∧ ∀ env, VR env z v := by
  unfold tyZero at h
  split at h
  · rename_i i hi
    split at h
    · rename_i v hv
      exact ⟨v, by simp [zeroValue, typeInfo, hi, hv], fun env => (conv_sound env _).1 _ _ h⟩
    · cases h
  · cases h
theorem zeroC_run {t : Nat} {z : AV} (h : tyZeroC P t = some z) (w : World) : ∃ v, (zeroValue t).run P w = .ok v w ∧ ∀ env, VL env z v.cells.toList := by
  unfold tyZeroC at h
  split at h
  · rename_i y hy
    cases h
    obtain ⟨v, e, r⟩ := zero_run hy w
    exact ⟨v, e, fun env => (r env).cells⟩
  · cases h
theorem field_info {s f ft off : Nat} (h : tyField P s f = some (ft, off)) : ∃ fs fld, P.underlying s = some (.struct fs) ∧ fs[f]? = some fld ∧ fld.type = ft ∧ fld.offset = off := by
  unfold tyField at h
  split at h
  · rename_i fs e
    split at h
    · rename_i x hx; cases h; exact ⟨fs, x, e, hx, rfl, rfl⟩
    · cases h
  · cases h
theorem slice_info {t e s : Nat} (h : tySlice P t = some (e, s)) : P.underlying t = some (.slice e) ∧ tySize P e = some s := by
  unfold tySlice at h
  split at h
  · rename_i e' he
    split at h
    · rename_i s' hs; cases h; exact ⟨he, hs⟩
    · cases h
  · cases h

theorem add_none (b o n : Nat) : (⟨b, o, none⟩ : Addr).add n = ⟨b, o + n, none⟩ := by
  unfold Addr.add
  split
  · rename_i h; subst h; rfl
  · rfl

theorem natOf_some {x : Option AV} {n : Nat} (h : natOf x = some n) : ∃ k, x = some (.int k (.ofNat n)) := by
  unfold natOf at h
  split at h
  · cases h; exact ⟨_, rfl⟩
  · cases h

theorem nat_opd (hg : GL G env) (ht : TR env tm a.tmps) {x : Operand} {c : CO} (hc : opdOf G x = some c) {n : Nat} (h : natOf (opd tm c) = some n) : ∃ k, a.eval x = .int k (n : Int) := by
  obtain ⟨k, e⟩ := natOf_some h
  exact ⟨k, opd_sound hg ht hc e⟩

theorem opdO_some {x : Option Operand} {c : Option CO} (h : opdO G x = some c) : (x = none ∧ c = none) ∨ ∃ y d, x = some y ∧ c = some d ∧ opdOf G y = some d := by
  unfold opdO at h
  split at h
  · cases h; exact .inl ⟨rfl, rfl⟩
  · rename_i y
    split at h
    · rename_i d hd; cases h; exact .inr ⟨y, d, rfl, rfl, hd⟩
    · cases h

/-- a bound that may be missing -/
theorem lim_opd (hg : GL G env) (ht : TR env tm a.tmps) {x : Option Operand} {c : Option CO} (hc : opdO G x = some c) {n d : Nat} (h : lim tm c d = some n) :
    (x = none ∧ n = d) ∨ ∃ y k, x = some y ∧ a.eval y = .int k (n : Int) := by
  rcases opdO_some hc with ⟨rfl, rfl⟩ | ⟨y, e, rfl, rfl, hd⟩
  · exact .inl ⟨rfl, (Option.some.inj h).symm⟩
  · obtain ⟨k, hk⟩ := nat_opd hg ht hd h
    exact .inr ⟨y, k, rfl, hk⟩

/-- the three bounds of a slice, within -/
theorem sliceBounds_run (hg : GL G env) (ht : TR env tm a.tmps) (isS : Bool) {len cap : Nat} {lo hi mx : Option Operand} {lo' hi' mx' : Option CO} (h1 : opdO G lo = some lo') (h2 : opdO G hi = some hi') (h3 : opdO G mx = some mx')
    {l h m : Nat} (e1 : lim tm lo' 0 = some l) (e2 : lim tm hi' len = some h) (e3 : lim tm mx' cap = some m) (a1 : l ≤ h) (a2 : h ≤ m) (a3 : m ≤ cap) (hmx : mx = none ∨ hi ≠ none) (w : World) :
    (Instr.sliceBounds isS len cap (lo.map a.eval) (hi.map a.eval) (mx.map a.eval)).run P w = .ok (l, h, m) w := by
  have sb : ∀ (k : IntKind) (n y : Nat) (code : BoundsCode), n ≤ y → (Instr.sliceBound (.int k (n : Int)) y code).run P w = .ok n w := by
    intro k n y code hle
    have : (0 : Int) ≤ n ∧ (n : Int) ≤ y := ⟨by omega, by omega⟩
    simp [Instr.sliceBound, asIntOf, this]
  rcases lim_opd hg ht h1 e1 with ⟨rfl, rfl⟩ | ⟨y1, k1, rfl, v1⟩ <;> rcases lim_opd hg ht h2 e2 with ⟨rfl, rfl⟩ | ⟨y2, k2, rfl, v2⟩ <;> rcases lim_opd hg ht h3 e3 with ⟨rfl, rfl⟩ | ⟨y3, k3, rfl, v3⟩ <;>
    first
      | (rcases hmx with h | h <;> first | (cases h; done) | (exact absurd rfl h))
      | (simp only [Instr.sliceBounds, Option.map_none, Option.map_some, *, Sem.run_bind, Sem.run_pure, Result.andThen_ok, sb _ _ _ _ a1, sb _ _ _ _ a2, sb _ _ _ _ a3]; done)
      | skip
end Go.Ev
