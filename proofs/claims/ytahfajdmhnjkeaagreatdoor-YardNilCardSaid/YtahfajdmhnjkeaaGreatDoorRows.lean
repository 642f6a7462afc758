/-
  NARROWER THAN 'FOR EVERY INPUT', by the rows' own cells (each row's printed sentence says how): YardNil: laid.
  DERIVED. THE GIVEN ROWS OF THIS SEAT. 1 by the template 'for every input the law returns true; each argument reads behind the call as it read before'; 0 by the template 'total and deterministic' (their statements: YtahfajdmhnjkeaaGreatDoorTotals.lean).
  GIVEN WITH THE SEED: the statements are not yours to turn. If you find one false, say at which input.
  Laid BY PROGRAM, IN A SANDBOX (cutbox-rows.mjs): the forced cells as the released guide's own fill.sh prints them over the translation 2a30c4b5e4d3f23b… (all of the seat's roots in one cut). By AI agents, Wed Nov 11 2026. No macro, syntax, notation, axiom, sorry.
-/
import Derived.Test.YtahfajdmhnjkeaaGreatDoorChecked
import GoSem.PinnedTables
import GoSem.Claim
import GoSem.ClaimJoined
import GoSem.ClaimMapViews
import Derived.JoinedTies
import Derived.KernelRfl
namespace Go.Proofs.YtahfajdmhnjkeaaGreatDoor
/- THE CELL 'sum', in the pinned program and in every row, IS THE sha256 OF THE DUMP (.gsa) THAT YtahfajdmhnjkeaaGreatDoorProg.lean LOADS. Nothing in Lean hashes anything: it is a label: what it is worth is what the hold of that sum in a sandbox is worth. -/
noncomputable def Tryz.pinned : Pinned := { name := "ytahfajdmhnjkeaagreatdoor", sum := "2a30c4b5e4d3f23b960356ff564500d90685fcfd38ae2db4f7147d1dde671aab", checked := Tryz.checked }
namespace Rows
def none {H : Type} : Left H := { results := [], args := [] }

/- WHAT THE LISTED PACKAGE-LEVEL VARIABLES READ AS WHEN THE CALL BEGINS. Each datum BY PROGRAM (the guide's laid-datum.mjs) off the statement by which the dump's own 'gosem.cut.vars' lays the variable. In a bare row this is a premise. The card (YtahfajdmhnjkeaaGreatDoorCards.lean) ties it to the program's text. -/
def laid_unicode_utf8_acceptRanges {H : Type} : DataW H := .agg [.agg [.lit (.int .u8 128), .lit (.int .u8 191)], .agg [.lit (.int .u8 160), .lit (.int .u8 191)], .agg [.lit (.int .u8 128), .lit (.int .u8 159)], .agg [.lit (.int .u8 144), .lit (.int .u8 191)], .agg [.lit (.int .u8 128), .lit (.int .u8 143)], .agg [.lit (.int .u8 0), .lit (.int .u8 0)], .agg [.lit (.int .u8 0), .lit (.int .u8 0)], .agg [.lit (.int .u8 0), .lit (.int .u8 0)], .agg [.lit (.int .u8 0), .lit (.int .u8 0)], .agg [.lit (.int .u8 0), .lit (.int .u8 0)], .agg [.lit (.int .u8 0), .lit (.int .u8 0)], .agg [.lit (.int .u8 0), .lit (.int .u8 0)], .agg [.lit (.int .u8 0), .lit (.int .u8 0)], .agg [.lit (.int .u8 0), .lit (.int .u8 0)], .agg [.lit (.int .u8 0), .lit (.int .u8 0)], .agg [.lit (.int .u8 0), .lit (.int .u8 0)]]
def laid_lapidary_parse_reserved {H : Type} : DataW H := .agg [.lit (.string [97, 110, 100]), .lit (.string [97, 115]), .lit (.string [97, 115, 99]), .lit (.string [98, 101, 103, 105, 110]), .lit (.string [98, 111, 111, 108]), .lit (.string [98, 121]), .lit (.string [99, 111, 109, 109, 105, 116]), .lit (.string [99, 111, 117, 110, 116]), .lit (.string [99, 114, 101, 97, 116, 101]), .lit (.string [100, 101, 108, 101, 116, 101]), .lit (.string [100, 101, 115, 99]), .lit (.string [100, 114, 111, 112]), .lit (.string [102, 97, 108, 115, 101]), .lit (.string [102, 114, 111, 109]), .lit (.string [103, 114, 111, 117, 112]), .lit (.string [105, 110, 100, 101, 120]), .lit (.string [105, 110, 115, 101, 114, 116]), .lit (.string [105, 110, 116]), .lit (.string [105, 110, 116, 111]), .lit (.string [105, 115]), .lit (.string [106, 111, 105, 110]), .lit (.string [108, 105, 109, 105, 116]), .lit (.string [109, 97, 120]), .lit (.string [109, 105, 110]), .lit (.string [110, 111, 116]), .lit (.string [110, 117, 108, 108]), .lit (.string [111, 110]), .lit (.string [111, 114]), .lit (.string [111, 114, 100, 101, 114]), .lit (.string [114, 111, 108, 108, 98, 97, 99, 107]), .lit (.string [115, 101, 108, 101, 99, 116]), .lit (.string [115, 101, 116]), .lit (.string [115, 117, 109]), .lit (.string [116, 97, 98, 108, 101]), .lit (.string [116, 101, 120, 116]), .lit (.string [116, 114, 117, 101]), .lit (.string [117, 112, 100, 97, 116, 101]), .lit (.string [118, 97, 108, 117, 101, 115]), .lit (.string [119, 104, 101, 114, 101])]
/-- One of Go's own tables, pinned by name: the form's constant. -/
def laid_unicode_CaseRanges : DataW Unit := Go.Pinned.caseRanges
/-- One of Go's own tables, pinned by name: the form's constant. -/
def laid_unicode_utf8_first : DataW Unit := Go.Pinned.utf8First

/-- 'lapidarylaw22.YardNil': WHATEVER THE INPUT: true; the input reads as it did. -/
def yardNilSpec : ChangeSpec := { name := "yardNil", fn := fun _ => fun
  | [d1, d2, d3] => { results := [.lit (.bool true)], args := [d1, d2, d3] }
  | _ => none }
def yardNilRow : OpenClaim := { program := "ytahfajdmhnjkeaagreatdoor", sum := "2a30c4b5e4d3f23b960356ff564500d90685fcfd38ae2db4f7147d1dde671aab", func := "lapidary/lapidarylaw22.YardNil", spec := "yardNil", inPlace := ["internal/bytealg.IndexByteString", "internal/abi.NoEscape", "internal/bytealg.MakeNoZero", "internal/bytealg.Compare", "slices.overlaps[lapidary/tree.Entry]", "slices.overlaps[*lapidary/tree.node]"], unfollowed := true, recurses := true, named := ["unicode/utf8.first", "unicode/utf8.acceptRanges", "lapidary/parse.reserved", "unicode.CaseRanges"], plainKeys := false, apart := false, laid := [("unicode/utf8.acceptRanges", laid_unicode_utf8_acceptRanges), ("lapidary/parse.reserved", laid_lapidary_parse_reserved), ("unicode.CaseRanges", laid_unicode_CaseRanges), ("unicode/utf8.first", laid_unicode_utf8_first)] }
def YardNilSaid : Prop := yardNilRow.holds Tryz.pinned (OpenSpec.ofChange yardNilSpec)

/-- ITS FALSE NEIGHBOUR: 'it returns false'. Refute it at one input. -/
def yardNilWrong : ChangeSpec := { name := "yardNil", fn := fun _ => fun
  | [d1, d2, d3] => { results := [.lit (.bool false)], args := [d1, d2, d3] }
  | _ => none }
def YardNilWrongFalsely : Prop := yardNilRow.holds Tryz.pinned (OpenSpec.ofChange yardNilWrong)

/- THE SECOND FORM. 'bulk': how many values and letters a reading holds, each counted each time it is reached (what is shared counts as often as it is met; a slice's spare places count too). A statement '..UptoSaid' is the law's where the arguments, and the package variables that the reading takes, are together of bulk at most 1048576: NARROWER than '..Said'. Prove '..Said' where nothing that the law and all that it calls make is longer than what came in: it says more and counts as full. Else prove '..UptoSaid'. A law counts once. -/
mutual
def uptoBulk {H : Type} : DataW H → Nat
  | .lit (.string bytes) => bytes.length + 1
  | .lit _ => 1
  | .nil => 1
  | .ptr d => uptoBulk d + 1
  | .slice elems spare => uptoBulkAll elems + uptoBulkAll spare + 1
  | .agg parts => uptoBulkAll parts + 1
  | .iface _ d => uptoBulk d + 1
  | .map entries => uptoBulkEntries entries + 1
  | .held _ => 1
def uptoBulkAll {H : Type} : List (DataW H) → Nat
  | [] => 0
  | d :: r => uptoBulk d + uptoBulkAll r
def uptoBulkEntries {H : Type} : List (Lit × DataW H) → Nat
  | [] => 0
  | x :: r => uptoBulkEntry x + uptoBulkEntries r
def uptoBulkEntry {H : Type} : Lit × DataW H → Nat
  | (.string bytes, d) => bytes.length + uptoBulk d + 1
  | (_, d) => uptoBulk d + 1
 end
def uptoSmall : (H : Type) → List (DataW H) → Bool := fun _ ds => decide (uptoBulkAll ds ≤ 1048576)
def OpenSpec.upto (s : _root_.Go.ChangeSpec) : _root_.Go.OpenSpec := { _root_.Go.OpenSpec.ofChange s with cond := some uptoSmall }

/-- 'lapidarylaw22.YardNil', WHERE WHAT IT READS IS OF BULK AT MOST 1048576: true; the input reads as it did. -/
def yardNilUptoRow : OpenClaim := { program := "ytahfajdmhnjkeaagreatdoor", sum := "2a30c4b5e4d3f23b960356ff564500d90685fcfd38ae2db4f7147d1dde671aab", func := "lapidary/lapidarylaw22.YardNil", spec := "yardNil", inPlace := ["internal/bytealg.IndexByteString", "internal/abi.NoEscape", "internal/bytealg.MakeNoZero", "internal/bytealg.Compare", "slices.overlaps[lapidary/tree.Entry]", "slices.overlaps[*lapidary/tree.node]"], unfollowed := true, recurses := true, named := ["unicode/utf8.first", "unicode/utf8.acceptRanges", "lapidary/parse.reserved", "unicode.CaseRanges"], plainKeys := false, apart := false, laid := [("unicode/utf8.acceptRanges", laid_unicode_utf8_acceptRanges), ("lapidary/parse.reserved", laid_lapidary_parse_reserved), ("unicode.CaseRanges", laid_unicode_CaseRanges), ("unicode/utf8.first", laid_unicode_utf8_first)], narrowed := true }
def YardNilUptoSaid : Prop := yardNilUptoRow.holds Tryz.pinned (OpenSpec.upto yardNilSpec)

end Rows
end Go.Proofs.YtahfajdmhnjkeaaGreatDoor
