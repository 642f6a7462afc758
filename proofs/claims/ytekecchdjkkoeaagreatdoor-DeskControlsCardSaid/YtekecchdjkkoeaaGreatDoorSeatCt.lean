/- The states of a desk that has one session and is told BEGIN, COMMIT and the like: c transactions have begun, the session's state is st. No condition. -/
import Derived.Test.YtekecchdjkkoeaaGreatDoorSeatH
import Derived.Test.YtekecchdjkkoeaaGreatDoorEv1
set_option linter.unusedVariables false
set_option linter.unusedSimpArgs false
namespace Go.Proofs.YtekecchdjkkoeaaGreatDoor
open Go.Ev
noncomputable def newT : List (Nat × TO) := [(3, .cells 39 0 518 (strsA rsvL)),
  (5, .cells 1 0 175 (ofRuns [(1, (.int .i64 (10)))])),
  (6, .cells 3 0 161 (ofRuns [(1, (.int .u64 (1))), (1, (.int .u64 (0))), (1, .nilSl)])),
  (7, .cells 3 0 179 (ofRuns [(2, .nilSl), (1, (.int .u64 (0)))])),
  (8, .map [] 0),
  (9, .map [] 0),
  (10, .map [] 0),
  (11, .cells 7 0 102 (ofRuns [(1, (.ptr 6 0)), (1, (.ptr 7 0)), (1, (.ptr 5 0)), (1, (.map 8)), (1, (.map 9)), (1, (.map 10)), (1, (.int .u64 (0)))])),
  (12, .cells 4 0 155 (ofRuns [(1, (.ptr 11 0)), (1, (.bool false)), (1, .nilSl), (1, (.int .i64 (0)))])),
  (13, .cells 8 0 86 (ofRuns [(1, (.ptr 11 0)), (1, (.ptr 12 0)), (6, .nilPtr)]))]
noncomputable def openT : List (Nat × TO) := [(3, .cells 39 0 518 (strsA rsvL)),
  (5, .cells 1 0 175 (ofRuns [(1, (.int .i64 (10)))])),
  (6, .cells 3 0 161 (ofRuns [(1, (.int .u64 (1))), (1, (.int .u64 (0))), (1, .nilSl)])),
  (7, .cells 3 0 179 (ofRuns [(2, .nilSl), (1, (.int .u64 (0)))])),
  (8, .map [] 0),
  (9, .map [] 0),
  (10, .map [] 0),
  (11, .cells 7 0 102 (ofRuns [(1, (.ptr 6 0)), (1, (.ptr 7 0)), (1, (.ptr 5 0)), (1, (.map 8)), (1, (.map 9)), (1, (.map 10)), (1, (.int .u64 (0)))])),
  (12, .cells 4 0 155 (ofRuns [(1, (.ptr 11 0)), (1, (.bool false)), (1, .nilSl), (1, (.int .i64 (0)))])),
  (13, .cells 8 0 86 (ofRuns [(1, (.ptr 11 0)), (1, (.ptr 12 0)), (1, (.ptr 14 0)), (5, .nilPtr)])),
  (14, .cells 10 0 88 (ofRuns [(1, (.int .i64 (0))), (1, (.int .u64 (0))), (1, (.bool false)), (1, (.str [])), (1, .nilPtr), (1, (.int .i64 (0))), (2, .nilSl), (1, (.int .i64 (0))), (1, (.bool false))]))]
def fldM (c st x : Nat) : Nat := bif Nat.blt c x then 3 else bif Nat.beq x 1 then 3 else bif Nat.beq x c && Nat.beq st 1 then 3 else 2
def fldV (c st x : Nat) : Nat := bif Nat.blt c x then 0 else bif Nat.beq x 1 then 2 else bif Nat.beq x c && Nat.beq st 1 then 1 else 2
noncomputable def byteA (c st q : Nat) : AV :=
  mkBits (Nat.add (fldM c st (4 * q + 1)) (Nat.add (4 * fldM c st (4 * q + 2)) (Nat.add (16 * fldM c st (4 * q + 3)) (64 * fldM c st (4 * q + 4)))))
    (Nat.add (fldV c st (4 * q + 1)) (Nat.add (4 * fldV c st (4 * q + 2)) (Nat.add (16 * fldV c st (4 * q + 3)) (64 * fldV c st (4 * q + 4)))))
noncomputable def bitsA (c st : Nat) : Nat → Nat → AV
  | 0, _ => .nil
  | n + 1, q => .cons (byteA c st q) (bitsA c st n (Nat.succ q))
noncomputable def stT (c st : Nat) : List (Nat × TO) := [(3, .cells 39 0 518 (strsA rsvL)),
  (5, .cells 1 0 175 (ofRuns [(1, (.int .i64 (10)))])),
  (6, .cells 3 0 161 (ofRuns [(1, .int .u64 (.ofNat 1)), (1, .int .u64 (.ofNat c)), (1, .sl 96 0 (Nat.div (Nat.add c 3) 4) none)])),
  (7, .cells 3 0 179 (ofRuns [(1, (.sl 125 0 1 none)), (1, .nilSl), (1, (.int .u64 (1)))])),
  (8, .map [⟨(.int .u64 (1)), (.ptr 127 0), 0⟩] 1),
  (9, .map [] 0),
  (10, .map (bif Nat.beq st 1 then [⟨.int .u64 (.ofNat c), .agg (.cons (.int .u64 (.ofNat c)) (.cons (.int .u64 (.ofNat (Nat.succ c))) (.cons (.int .u64 (.ofNat (Nat.succ c))) (.cons .nilSl .nil)))), Nat.pred c⟩] else []) c),
  (11, .cells 7 0 102 (ofRuns [(1, (.ptr 6 0)), (1, (.ptr 7 0)), (1, (.ptr 5 0)), (1, (.map 8)), (1, (.map 9)), (1, (.map 10)), (1, (.int .u64 (0)))])),
  (12, .cells 4 0 155 (ofRuns [(1, (.ptr 11 0)), (1, (.bool false)), (1, .nilSl), (1, (.int .i64 (0)))])),
  (13, .cells 8 0 86 (ofRuns [(1, (.ptr 11 0)), (1, (.ptr 12 0)), (1, (.ptr 14 0)), (5, .nilPtr)])),
  (14, .cells 10 0 88 (ofRuns [(1, .int .i64 (.ofNat st)), (1, .int .u64 (.ofNat (bif Nat.beq st 1 then c else 0))), (1, .bool false), (1, .unk), (1, .nilPtr), (4, .unk), (1, .bool true)])),
  (96, .cells (Nat.div (Nat.add c 3) 4) 1 5 (bitsA c st (Nat.div (Nat.add c 3) 4) 0)),
  (122, .cells 2 2 298 (ofRuns [(1, (.str [97])), (1, (.int .u8 (1)))])),
  (123, .cells 5 0 315 (ofRuns [(1, (.int .u64 (1))), (1, (.str [116])), (1, (.int .u64 (1))), (1, (.int .u64 (0))), (1, (.sl 122 0 1 none))])),
  (125, .cells 1 1 309 (ofRuns [(1, (.ptr 123 0))])),
  (126, .cells 513 0 431 (ofRuns [(512, (.int .i64 (-1))), (1, (.int .i64 (0)))])),
  (127, .cells 3 0 320 (ofRuns [(1, (.ptr 5 0)), (1, .nilSl), (1, (.ptr 126 0))]))]
def codeT (st k : Nat) : Nat := (([[0, 14, 14, 6, 0], [14, 0, 0, 6, 0], [13, 13, 0, 13, 13]].getD st []).getD k 0)
def nextS (st k : Nat) : Nat := (([[1, 0, 0, 0, 0], [2, 0, 0, 2, 1], [2, 0, 0, 2, 2]].getD st []).getD k 0)
def nextC (c st k : Nat) : Nat := Nat.add c (([[1, 0, 0, 1, 1], [0, 0, 0, 0, 0], [0, 0, 0, 0, 0]].getD st []).getD k 0)
def rho (c st k : Nat) : List (Nat × Nat) := bif Nat.beq st 0 && Nat.beq (Nat.mod c 4) 0 then (bif Nat.beq k 0 then [(96, 157)] else bif Nat.beq k 3 then [(96, 203)] else bif Nat.beq k 4 then [(96, 203)] else []) else []
noncomputable def retT (st k : Nat) : AV := .tup (.cons (.agg (.cons (.int .i64 (.ofNat (codeT st k))) (.cons .unk (.cons .unk (.cons .unk .nil))))) (.cons (.int .i64 (.ofNat 0)) .nil))
noncomputable def argT (s : List Nat) : AV := .cons (.ptr 13 0) (.cons (.int .i64 (.ofNat 0)) (.cons (.str s) .nil))
noncomputable def ctl1 (c st k : Nat) (s : List Nat) : Bool := tellR (rho c st k) (stT (nextC c st k) (nextS st k)) 137 (retT st k) (fcall Tryz.prog 5 49 100000 1000 17 (argT s) (heapT (stT c st)) 137 fin)
noncomputable def ctlS (c st : Nat) : Bool := tellR [] (stT c st) 137 (.int .i64 (.ofNat st)) (fcall Tryz.prog 5 49 100000 1000 18 (.cons (.ptr 13 0) (.cons (.int .i64 (.ofNat 0)) .nil)) (heapT (stT c st)) 137 fin)
noncomputable def ctlB (c st : Nat) : Bool := isSomeH (hpT (stT c st)) && (ctlS c st && (ctl1 c st 0 [66, 69, 71, 73, 78] && (ctl1 c st 1 [67, 79, 77, 77, 73, 84] && (ctl1 c st 2 [82, 79, 76, 76, 66, 65, 67, 75] && (ctl1 c st 3 [83, 69, 76, 69, 67, 84, 32, 120, 32, 70, 82, 79, 77, 32, 116] && (ctl1 c st 4 [83, 69, 76, 69, 67, 84, 32, 97, 32, 70, 82, 79, 77, 32, 116]))))))
end Go.Proofs.YtekecchdjkkoeaaGreatDoor
