/- What Parse leaves of ExecGroups' second statement. No condition. -/
import Derived.Test.YtekecchdjkkoeaaGreatDoorSeatH
import Derived.Test.YtekecchdjkkoeaaGreatDoorEv1
set_option linter.unusedVariables false
set_option linter.unusedSimpArgs false
namespace Go.Proofs.YtekecchdjkkoeaaGreatDoor
open Go.Ev
noncomputable def tlP (x : AV) : List (Nat × TO) := [(12139, .cells 2 0 478 (ofRuns [(1, (.str [])), (1, (.str [97]))])),
  (12143, .cells 2 2 305 (ofRuns [(1, (.iface 464 (.ptr 12139 0))), (1, (.bool true))])),
  (12122, .cells 2 0 478 (ofRuns [(1, (.str [])), (1, (.str [97]))])),
  (12126, .cells 2 2 303 (ofRuns [(1, (.iface 464 (.ptr 12122 0))), (1, (.str []))])),
  (12112, .cells 8 0 260 (ofRuns [(1, (.sl 12126 0 1 none)), (1, (.str [116])), (1, (.str [])), (2, .nilIface), (1, .nilSl), (1, (.sl 12143 0 1 none)), (1, x)]))]
noncomputable def vP : AV := (.tup (.cons (.iface 148 (.ptr 12112 0)) (.cons (.int .i64 (0)) .nil)))
def preL : List Nat := [83, 69, 76, 69, 67, 84, 32, 97, 32, 70, 82, 79, 77, 32, 116, 32, 79, 82, 68, 69, 82, 32, 66, 89, 32, 97, 32, 68, 69, 83, 67, 32, 76, 73, 77, 73, 84, 32]
def sqlOf (m : Nat) : List Nat := preL ++ (bif Nat.blt m 10 then [48 + m] else bif Nat.blt m 100 then [48 + m / 10, 48 + m % 10] else [49, 48 + (m - 100) / 10, 48 + m % 10])
noncomputable def rngK (k : Nat) : AV := .rng (some (.ofNat (Nat.succ k))) (some (.ofNat 127))
noncomputable def xsOf (m : Nat) : List AV := bif Nat.blt m 20 then .int .i64 (.ofNat m) :: (List.range m).map rngK else (List.range 20).map rngK
end Go.Proofs.YtekecchdjkkoeaaGreatDoor
