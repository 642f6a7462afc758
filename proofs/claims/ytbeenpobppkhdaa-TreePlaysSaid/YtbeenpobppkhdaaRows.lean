/-
  No cell of these rows narrows 'for every input' (looked for: loops, veiled, ifaces, maps, wideKeys, modest, calm, conditions, laid).
  DERIVED. THE GIVEN ROWS OF THIS SEAT. 6 by the template 'for every input the law returns true; each argument reads behind the call as it read before'; 0 by the template 'total and deterministic' (their statements: YtbeenpobppkhdaaTotals.lean).
  GIVEN WITH THE SEED: the statements are not yours to turn. If you find one false, say at which input.
  Laid BY PROGRAM, IN A SANDBOX (cutbox-rows.mjs): the forced cells as the released guide's own fill.sh prints them over the translation e9d9851196d54de7… (all of the seat's roots in one cut). By AI agents, Wed Nov 11 2026. No macro, syntax, notation, axiom, sorry.
-/
import Derived.Test.YtbeenpobppkhdaaChecked
import GoSem.Claim
import GoSem.ClaimJoined
import GoSem.ClaimMapViews
import Derived.JoinedTies
import Derived.KernelRfl
namespace Go.Proofs.Ytbeenpobppkhdaa
/- THE CELL 'sum', in the pinned program and in every row, IS THE sha256 OF THE DUMP (.gsa) THAT YtbeenpobppkhdaaProg.lean LOADS. Nothing in Lean hashes anything: it is a label: what it is worth is what the hold of that sum in a sandbox is worth. -/
noncomputable def Try.pinned : Pinned := { name := "ytbeenpobppkhdaa", sum := "e9d9851196d54de7e80bceaf7f38a7192d12fc3d428c81b99b8721c2b2575012", checked := Try.checked }
namespace Rows
def none {H : Type} : Left H := { results := [], args := [] }

/-- 'lapidarylaw08.TreeKeys': WHATEVER THE INPUT: true; the input reads as it did. -/
def treeKeysSpec : ChangeSpec := { name := "treeKeys", fn := fun _ => fun
  | [d1, d2] => { results := [.lit (.bool true)], args := [d1, d2] }
  | _ => none }
def treeKeysRow : OpenClaim := { program := "ytbeenpobppkhdaa", sum := "e9d9851196d54de7e80bceaf7f38a7192d12fc3d428c81b99b8721c2b2575012", func := "lapidary/lapidarylaw08.TreeKeys", spec := "treeKeys", inPlace := ["internal/bytealg.Compare", "slices.overlaps[lapidary/tree.Entry]", "slices.overlaps[*lapidary/tree.node]"], unfollowed := true, recurses := true, plainKeys := false, apart := false }
def TreeKeysSaid : Prop := treeKeysRow.holds Try.pinned (OpenSpec.ofChange treeKeysSpec)

/-- ITS FALSE NEIGHBOUR: 'it returns false'. Refute it at one input. -/
def treeKeysWrong : ChangeSpec := { name := "treeKeys", fn := fun _ => fun
  | [d1, d2] => { results := [.lit (.bool false)], args := [d1, d2] }
  | _ => none }
def TreeKeysWrongFalsely : Prop := treeKeysRow.holds Try.pinned (OpenSpec.ofChange treeKeysWrong)

/-- 'lapidarylaw08.TreeOrder': WHATEVER THE INPUT: true; the input reads as it did. -/
def treeOrderSpec : ChangeSpec := { name := "treeOrder", fn := fun _ => fun
  | [d] => { results := [.lit (.bool true)], args := [d] }
  | _ => none }
def treeOrderRow : OpenClaim := { program := "ytbeenpobppkhdaa", sum := "e9d9851196d54de7e80bceaf7f38a7192d12fc3d428c81b99b8721c2b2575012", func := "lapidary/lapidarylaw08.TreeOrder", spec := "treeOrder", inPlace := ["internal/bytealg.Compare", "slices.overlaps[lapidary/tree.Entry]", "slices.overlaps[*lapidary/tree.node]"], unfollowed := true, recurses := true, plainKeys := false, apart := false }
def TreeOrderSaid : Prop := treeOrderRow.holds Try.pinned (OpenSpec.ofChange treeOrderSpec)

/-- ITS FALSE NEIGHBOUR: 'it returns false'. Refute it at one input. -/
def treeOrderWrong : ChangeSpec := { name := "treeOrder", fn := fun _ => fun
  | [d] => { results := [.lit (.bool false)], args := [d] }
  | _ => none }
def TreeOrderWrongFalsely : Prop := treeOrderRow.holds Try.pinned (OpenSpec.ofChange treeOrderWrong)

/-- 'lapidarylaw08.TreeParts': WHATEVER THE INPUT: true; the input reads as it did. -/
def treePartsSpec : ChangeSpec := { name := "treeParts", fn := fun _ => fun
  | [d1, d2] => { results := [.lit (.bool true)], args := [d1, d2] }
  | _ => none }
def treePartsRow : OpenClaim := { program := "ytbeenpobppkhdaa", sum := "e9d9851196d54de7e80bceaf7f38a7192d12fc3d428c81b99b8721c2b2575012", func := "lapidary/lapidarylaw08.TreeParts", spec := "treeParts", inPlace := ["internal/bytealg.Compare", "slices.overlaps[lapidary/tree.Entry]", "slices.overlaps[*lapidary/tree.node]"], unfollowed := true, recurses := true, plainKeys := false, apart := false }
def TreePartsSaid : Prop := treePartsRow.holds Try.pinned (OpenSpec.ofChange treePartsSpec)

/-- ITS FALSE NEIGHBOUR: 'it returns false'. Refute it at one input. -/
def treePartsWrong : ChangeSpec := { name := "treeParts", fn := fun _ => fun
  | [d1, d2] => { results := [.lit (.bool false)], args := [d1, d2] }
  | _ => none }
def TreePartsWrongFalsely : Prop := treePartsRow.holds Try.pinned (OpenSpec.ofChange treePartsWrong)

/-- 'lapidarylaw08.TreePrunes': WHATEVER THE INPUT: true; the input reads as it did. -/
def treePrunesSpec : ChangeSpec := { name := "treePrunes", fn := fun _ => fun
  | [d1, d2] => { results := [.lit (.bool true)], args := [d1, d2] }
  | _ => none }
def treePrunesRow : OpenClaim := { program := "ytbeenpobppkhdaa", sum := "e9d9851196d54de7e80bceaf7f38a7192d12fc3d428c81b99b8721c2b2575012", func := "lapidary/lapidarylaw08.TreePrunes", spec := "treePrunes", inPlace := ["internal/bytealg.Compare", "slices.overlaps[lapidary/tree.Entry]", "slices.overlaps[*lapidary/tree.node]"], unfollowed := true, recurses := true, plainKeys := false, apart := false }
def TreePrunesSaid : Prop := treePrunesRow.holds Try.pinned (OpenSpec.ofChange treePrunesSpec)

/-- ITS FALSE NEIGHBOUR: 'it returns false'. Refute it at one input. -/
def treePrunesWrong : ChangeSpec := { name := "treePrunes", fn := fun _ => fun
  | [d1, d2] => { results := [.lit (.bool false)], args := [d1, d2] }
  | _ => none }
def TreePrunesWrongFalsely : Prop := treePrunesRow.holds Try.pinned (OpenSpec.ofChange treePrunesWrong)

/-- 'lapidarylaw08.TreeOnce': WHATEVER THE INPUT: true; the input reads as it did. -/
def treeOnceSpec : ChangeSpec := { name := "treeOnce", fn := fun _ => fun
  | [d1, d2, d3, d4] => { results := [.lit (.bool true)], args := [d1, d2, d3, d4] }
  | _ => none }
def treeOnceRow : OpenClaim := { program := "ytbeenpobppkhdaa", sum := "e9d9851196d54de7e80bceaf7f38a7192d12fc3d428c81b99b8721c2b2575012", func := "lapidary/lapidarylaw08.TreeOnce", spec := "treeOnce", inPlace := ["internal/bytealg.Compare", "slices.overlaps[lapidary/tree.Entry]", "slices.overlaps[*lapidary/tree.node]"], unfollowed := true, recurses := true, plainKeys := false, apart := false }
def TreeOnceSaid : Prop := treeOnceRow.holds Try.pinned (OpenSpec.ofChange treeOnceSpec)

/-- ITS FALSE NEIGHBOUR: 'it returns false'. Refute it at one input. -/
def treeOnceWrong : ChangeSpec := { name := "treeOnce", fn := fun _ => fun
  | [d1, d2, d3, d4] => { results := [.lit (.bool false)], args := [d1, d2, d3, d4] }
  | _ => none }
def TreeOnceWrongFalsely : Prop := treeOnceRow.holds Try.pinned (OpenSpec.ofChange treeOnceWrong)

/-- 'lapidarylaw08.TreePlays': WHATEVER THE INPUT: true; the input reads as it did. -/
def treePlaysSpec : ChangeSpec := { name := "treePlays", fn := fun _ => fun
  | [d1, d2, d3, d4] => { results := [.lit (.bool true)], args := [d1, d2, d3, d4] }
  | _ => none }
def treePlaysRow : OpenClaim := { program := "ytbeenpobppkhdaa", sum := "e9d9851196d54de7e80bceaf7f38a7192d12fc3d428c81b99b8721c2b2575012", func := "lapidary/lapidarylaw08.TreePlays", spec := "treePlays", inPlace := ["internal/bytealg.Compare", "slices.overlaps[lapidary/tree.Entry]", "slices.overlaps[*lapidary/tree.node]"], unfollowed := true, recurses := true, plainKeys := false, apart := false }
def TreePlaysSaid : Prop := treePlaysRow.holds Try.pinned (OpenSpec.ofChange treePlaysSpec)

/-- ITS FALSE NEIGHBOUR: 'it returns false'. Refute it at one input. -/
def treePlaysWrong : ChangeSpec := { name := "treePlays", fn := fun _ => fun
  | [d1, d2, d3, d4] => { results := [.lit (.bool false)], args := [d1, d2, d3, d4] }
  | _ => none }
def TreePlaysWrongFalsely : Prop := treePlaysRow.holds Try.pinned (OpenSpec.ofChange treePlaysWrong)

/- THE SECOND FORM. 'bulk': how many values and letters a reading holds, each counted each time it is reached (what is shared counts as often as it is met; a slice's spare places count too). A statement '..UptoSaid' is the law's where the arguments, and the package variables that the reading takes, are together of bulk at most 1048576: NARROWER than '..Said'. Prove '..Said' where nothing that the law and all that it calls make is longer than what came in: it says more and counts as full. Else prove '..UptoSaid'. A law counts once. -/
mutual
def uptoBulk {H : Type} : DataW H → Nat
  | .lit (.string bytes) => bytes.length + 1
  | .lit _ => 1
  | .nil => 1
  | .ptr d => uptoBulk d + 1
  | .slice elems spare => uptoBulkAll elems + uptoBulkAll spare + 1
  | .agg parts => uptoBulkAll parts + 1
  | .iface _ d => uptoBulk d + 1
  | .map entries => uptoBulkEntries entries + 1
  | .held _ => 1
def uptoBulkAll {H : Type} : List (DataW H) → Nat
  | [] => 0
  | d :: r => uptoBulk d + uptoBulkAll r
def uptoBulkEntries {H : Type} : List (Lit × DataW H) → Nat
  | [] => 0
  | x :: r => uptoBulkEntry x + uptoBulkEntries r
def uptoBulkEntry {H : Type} : Lit × DataW H → Nat
  | (.string bytes, d) => bytes.length + uptoBulk d + 1
  | (_, d) => uptoBulk d + 1
 end
def uptoSmall : (H : Type) → List (DataW H) → Bool := fun _ ds => decide (uptoBulkAll ds ≤ 1048576)
def OpenSpec.upto (s : _root_.Go.ChangeSpec) : _root_.Go.OpenSpec := { _root_.Go.OpenSpec.ofChange s with cond := some uptoSmall }

/-- 'lapidarylaw08.TreeKeys', WHERE WHAT IT READS IS OF BULK AT MOST 1048576: true; the input reads as it did. -/
def treeKeysUptoRow : OpenClaim := { program := "ytbeenpobppkhdaa", sum := "e9d9851196d54de7e80bceaf7f38a7192d12fc3d428c81b99b8721c2b2575012", func := "lapidary/lapidarylaw08.TreeKeys", spec := "treeKeys", inPlace := ["internal/bytealg.Compare", "slices.overlaps[lapidary/tree.Entry]", "slices.overlaps[*lapidary/tree.node]"], unfollowed := true, recurses := true, plainKeys := false, apart := false, narrowed := true }
def TreeKeysUptoSaid : Prop := treeKeysUptoRow.holds Try.pinned (OpenSpec.upto treeKeysSpec)

/-- 'lapidarylaw08.TreeOrder', WHERE WHAT IT READS IS OF BULK AT MOST 1048576: true; the input reads as it did. -/
def treeOrderUptoRow : OpenClaim := { program := "ytbeenpobppkhdaa", sum := "e9d9851196d54de7e80bceaf7f38a7192d12fc3d428c81b99b8721c2b2575012", func := "lapidary/lapidarylaw08.TreeOrder", spec := "treeOrder", inPlace := ["internal/bytealg.Compare", "slices.overlaps[lapidary/tree.Entry]", "slices.overlaps[*lapidary/tree.node]"], unfollowed := true, recurses := true, plainKeys := false, apart := false, narrowed := true }
def TreeOrderUptoSaid : Prop := treeOrderUptoRow.holds Try.pinned (OpenSpec.upto treeOrderSpec)

/-- 'lapidarylaw08.TreeParts', WHERE WHAT IT READS IS OF BULK AT MOST 1048576: true; the input reads as it did. -/
def treePartsUptoRow : OpenClaim := { program := "ytbeenpobppkhdaa", sum := "e9d9851196d54de7e80bceaf7f38a7192d12fc3d428c81b99b8721c2b2575012", func := "lapidary/lapidarylaw08.TreeParts", spec := "treeParts", inPlace := ["internal/bytealg.Compare", "slices.overlaps[lapidary/tree.Entry]", "slices.overlaps[*lapidary/tree.node]"], unfollowed := true, recurses := true, plainKeys := false, apart := false, narrowed := true }
def TreePartsUptoSaid : Prop := treePartsUptoRow.holds Try.pinned (OpenSpec.upto treePartsSpec)

/-- 'lapidarylaw08.TreePrunes', WHERE WHAT IT READS IS OF BULK AT MOST 1048576: true; the input reads as it did. -/
def treePrunesUptoRow : OpenClaim := { program := "ytbeenpobppkhdaa", sum := "e9d9851196d54de7e80bceaf7f38a7192d12fc3d428c81b99b8721c2b2575012", func := "lapidary/lapidarylaw08.TreePrunes", spec := "treePrunes", inPlace := ["internal/bytealg.Compare", "slices.overlaps[lapidary/tree.Entry]", "slices.overlaps[*lapidary/tree.node]"], unfollowed := true, recurses := true, plainKeys := false, apart := false, narrowed := true }
def TreePrunesUptoSaid : Prop := treePrunesUptoRow.holds Try.pinned (OpenSpec.upto treePrunesSpec)

/-- 'lapidarylaw08.TreeOnce', WHERE WHAT IT READS IS OF BULK AT MOST 1048576: true; the input reads as it did. -/
def treeOnceUptoRow : OpenClaim := { program := "ytbeenpobppkhdaa", sum := "e9d9851196d54de7e80bceaf7f38a7192d12fc3d428c81b99b8721c2b2575012", func := "lapidary/lapidarylaw08.TreeOnce", spec := "treeOnce", inPlace := ["internal/bytealg.Compare", "slices.overlaps[lapidary/tree.Entry]", "slices.overlaps[*lapidary/tree.node]"], unfollowed := true, recurses := true, plainKeys := false, apart := false, narrowed := true }
def TreeOnceUptoSaid : Prop := treeOnceUptoRow.holds Try.pinned (OpenSpec.upto treeOnceSpec)

/-- 'lapidarylaw08.TreePlays', WHERE WHAT IT READS IS OF BULK AT MOST 1048576: true; the input reads as it did. -/
def treePlaysUptoRow : OpenClaim := { program := "ytbeenpobppkhdaa", sum := "e9d9851196d54de7e80bceaf7f38a7192d12fc3d428c81b99b8721c2b2575012", func := "lapidary/lapidarylaw08.TreePlays", spec := "treePlays", inPlace := ["internal/bytealg.Compare", "slices.overlaps[lapidary/tree.Entry]", "slices.overlaps[*lapidary/tree.node]"], unfollowed := true, recurses := true, plainKeys := false, apart := false, narrowed := true }
def TreePlaysUptoSaid : Prop := treePlaysUptoRow.holds Try.pinned (OpenSpec.upto treePlaysSpec)

end Rows
end Go.Proofs.Ytbeenpobppkhdaa
