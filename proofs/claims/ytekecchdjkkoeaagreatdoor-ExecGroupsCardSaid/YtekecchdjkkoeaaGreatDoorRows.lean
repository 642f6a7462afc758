/-
  NARROWER THAN 'FOR EVERY INPUT', by the rows' own cells (each row's printed sentence says how): ExecJoins: laid · ExecGroups: laid · ExecWrites: laid · DeskControls: laid · DeskSteps: laid · DeskCloses: laid · DeskNil: laid.
  DERIVED. THE GIVEN ROWS OF THIS SEAT. 7 by the template 'for every input the law returns true; each argument reads behind the call as it read before'; 0 by the template 'total and deterministic' (their statements: YtekecchdjkkoeaaGreatDoorTotals.lean).
  GIVEN WITH THE SEED: the statements are not yours to turn. If you find one false, say at which input.
  Laid BY PROGRAM, IN A SANDBOX (cutbox-rows.mjs): the forced cells as the released guide's own fill.sh prints them over the translation c16d5395c227174a… (all of the seat's roots in one cut). By AI agents, Wed Nov 11 2026. No macro, syntax, notation, axiom, sorry.
-/
import Derived.Test.YtekecchdjkkoeaaGreatDoorChecked
import GoSem.PinnedTables
import GoSem.Claim
import GoSem.ClaimJoined
import GoSem.ClaimMapViews
import Derived.JoinedTies
import Derived.KernelRfl
namespace Go.Proofs.YtekecchdjkkoeaaGreatDoor
/- THE CELL 'sum', in the pinned program and in every row, IS THE sha256 OF THE DUMP (.gsa) THAT YtekecchdjkkoeaaGreatDoorProg.lean LOADS. Nothing in Lean hashes anything: it is a label: what it is worth is what the hold of that sum in a sandbox is worth. -/
noncomputable def Tryz.pinned : Pinned := { name := "ytekecchdjkkoeaagreatdoor", sum := "c16d5395c227174a6a6f4df7fa018b903ace5f94c0f1f239db0e06585f0b5877", checked := Tryz.checked }
namespace Rows
def none {H : Type} : Left H := { results := [], args := [] }

/- WHAT THE LISTED PACKAGE-LEVEL VARIABLES READ AS WHEN THE CALL BEGINS. Each datum BY PROGRAM (the guide's laid-datum.mjs) off the statement by which the dump's own 'gosem.cut.vars' lays the variable. In a bare row this is a premise. The card (YtekecchdjkkoeaaGreatDoorCards.lean) ties it to the program's text. -/
def laid_unicode_utf8_acceptRanges {H : Type} : DataW H := .agg [.agg [.lit (.int .u8 128), .lit (.int .u8 191)], .agg [.lit (.int .u8 160), .lit (.int .u8 191)], .agg [.lit (.int .u8 128), .lit (.int .u8 159)], .agg [.lit (.int .u8 144), .lit (.int .u8 191)], .agg [.lit (.int .u8 128), .lit (.int .u8 143)], .agg [.lit (.int .u8 0), .lit (.int .u8 0)], .agg [.lit (.int .u8 0), .lit (.int .u8 0)], .agg [.lit (.int .u8 0), .lit (.int .u8 0)], .agg [.lit (.int .u8 0), .lit (.int .u8 0)], .agg [.lit (.int .u8 0), .lit (.int .u8 0)], .agg [.lit (.int .u8 0), .lit (.int .u8 0)], .agg [.lit (.int .u8 0), .lit (.int .u8 0)], .agg [.lit (.int .u8 0), .lit (.int .u8 0)], .agg [.lit (.int .u8 0), .lit (.int .u8 0)], .agg [.lit (.int .u8 0), .lit (.int .u8 0)], .agg [.lit (.int .u8 0), .lit (.int .u8 0)]]
def laid_lapidary_parse_reserved {H : Type} : DataW H := .agg [.lit (.string [97, 110, 100]), .lit (.string [97, 115]), .lit (.string [97, 115, 99]), .lit (.string [98, 101, 103, 105, 110]), .lit (.string [98, 111, 111, 108]), .lit (.string [98, 121]), .lit (.string [99, 111, 109, 109, 105, 116]), .lit (.string [99, 111, 117, 110, 116]), .lit (.string [99, 114, 101, 97, 116, 101]), .lit (.string [100, 101, 108, 101, 116, 101]), .lit (.string [100, 101, 115, 99]), .lit (.string [100, 114, 111, 112]), .lit (.string [102, 97, 108, 115, 101]), .lit (.string [102, 114, 111, 109]), .lit (.string [103, 114, 111, 117, 112]), .lit (.string [105, 110, 100, 101, 120]), .lit (.string [105, 110, 115, 101, 114, 116]), .lit (.string [105, 110, 116]), .lit (.string [105, 110, 116, 111]), .lit (.string [105, 115]), .lit (.string [106, 111, 105, 110]), .lit (.string [108, 105, 109, 105, 116]), .lit (.string [109, 97, 120]), .lit (.string [109, 105, 110]), .lit (.string [110, 111, 116]), .lit (.string [110, 117, 108, 108]), .lit (.string [111, 110]), .lit (.string [111, 114]), .lit (.string [111, 114, 100, 101, 114]), .lit (.string [114, 111, 108, 108, 98, 97, 99, 107]), .lit (.string [115, 101, 108, 101, 99, 116]), .lit (.string [115, 101, 116]), .lit (.string [115, 117, 109]), .lit (.string [116, 97, 98, 108, 101]), .lit (.string [116, 101, 120, 116]), .lit (.string [116, 114, 117, 101]), .lit (.string [117, 112, 100, 97, 116, 101]), .lit (.string [118, 97, 108, 117, 101, 115]), .lit (.string [119, 104, 101, 114, 101])]
/-- One of Go's own tables, pinned by name: the form's constant. -/
def laid_unicode_CaseRanges : DataW Unit := Go.Pinned.caseRanges
/-- One of Go's own tables, pinned by name: the form's constant. -/
def laid_unicode_utf8_first : DataW Unit := Go.Pinned.utf8First

/-- 'lapidarylaw20.ExecJoins': WHATEVER THE INPUT: true; the input reads as it did. -/
def execJoinsSpec : ChangeSpec := { name := "execJoins", fn := fun _ => fun
  | [d1, d2] => { results := [.lit (.bool true)], args := [d1, d2] }
  | _ => none }
def execJoinsRow : OpenClaim := { program := "ytekecchdjkkoeaagreatdoor", sum := "c16d5395c227174a6a6f4df7fa018b903ace5f94c0f1f239db0e06585f0b5877", func := "lapidary/lapidarylaw20.ExecJoins", spec := "execJoins", inPlace := ["internal/bytealg.IndexByteString", "internal/abi.NoEscape", "internal/bytealg.MakeNoZero", "internal/bytealg.Compare", "slices.overlaps[lapidary/tree.Entry]", "slices.overlaps[*lapidary/tree.node]"], unfollowed := true, recurses := true, named := ["unicode/utf8.first", "unicode/utf8.acceptRanges", "lapidary/parse.reserved", "unicode.CaseRanges"], plainKeys := false, apart := false, laid := [("unicode/utf8.acceptRanges", laid_unicode_utf8_acceptRanges), ("lapidary/parse.reserved", laid_lapidary_parse_reserved), ("unicode.CaseRanges", laid_unicode_CaseRanges), ("unicode/utf8.first", laid_unicode_utf8_first)] }
def ExecJoinsSaid : Prop := execJoinsRow.holds Tryz.pinned (OpenSpec.ofChange execJoinsSpec)

/-- ITS FALSE NEIGHBOUR: 'it returns false'. Refute it at one input. -/
def execJoinsWrong : ChangeSpec := { name := "execJoins", fn := fun _ => fun
  | [d1, d2] => { results := [.lit (.bool false)], args := [d1, d2] }
  | _ => none }
def ExecJoinsWrongFalsely : Prop := execJoinsRow.holds Tryz.pinned (OpenSpec.ofChange execJoinsWrong)

/-- 'lapidarylaw20.ExecGroups': WHATEVER THE INPUT: true; the input reads as it did. -/
def execGroupsSpec : ChangeSpec := { name := "execGroups", fn := fun _ => fun
  | [d1, d2] => { results := [.lit (.bool true)], args := [d1, d2] }
  | _ => none }
def execGroupsRow : OpenClaim := { program := "ytekecchdjkkoeaagreatdoor", sum := "c16d5395c227174a6a6f4df7fa018b903ace5f94c0f1f239db0e06585f0b5877", func := "lapidary/lapidarylaw20.ExecGroups", spec := "execGroups", inPlace := ["internal/bytealg.IndexByteString", "internal/abi.NoEscape", "internal/bytealg.MakeNoZero", "internal/bytealg.Compare", "slices.overlaps[lapidary/tree.Entry]", "slices.overlaps[*lapidary/tree.node]"], unfollowed := true, recurses := true, named := ["unicode/utf8.first", "unicode/utf8.acceptRanges", "lapidary/parse.reserved", "unicode.CaseRanges"], plainKeys := false, apart := false, laid := [("unicode/utf8.acceptRanges", laid_unicode_utf8_acceptRanges), ("lapidary/parse.reserved", laid_lapidary_parse_reserved), ("unicode.CaseRanges", laid_unicode_CaseRanges), ("unicode/utf8.first", laid_unicode_utf8_first)] }
def ExecGroupsSaid : Prop := execGroupsRow.holds Tryz.pinned (OpenSpec.ofChange execGroupsSpec)

/-- ITS FALSE NEIGHBOUR: 'it returns false'. Refute it at one input. -/
def execGroupsWrong : ChangeSpec := { name := "execGroups", fn := fun _ => fun
  | [d1, d2] => { results := [.lit (.bool false)], args := [d1, d2] }
  | _ => none }
def ExecGroupsWrongFalsely : Prop := execGroupsRow.holds Tryz.pinned (OpenSpec.ofChange execGroupsWrong)

/-- 'lapidarylaw20.ExecWrites': WHATEVER THE INPUT: true; the input reads as it did. -/
def execWritesSpec : ChangeSpec := { name := "execWrites", fn := fun _ => fun
  | [d1, d2, d3] => { results := [.lit (.bool true)], args := [d1, d2, d3] }
  | _ => none }
def execWritesRow : OpenClaim := { program := "ytekecchdjkkoeaagreatdoor", sum := "c16d5395c227174a6a6f4df7fa018b903ace5f94c0f1f239db0e06585f0b5877", func := "lapidary/lapidarylaw20.ExecWrites", spec := "execWrites", inPlace := ["internal/bytealg.IndexByteString", "internal/abi.NoEscape", "internal/bytealg.MakeNoZero", "internal/bytealg.Compare", "slices.overlaps[lapidary/tree.Entry]", "slices.overlaps[*lapidary/tree.node]"], unfollowed := true, recurses := true, named := ["unicode/utf8.first", "unicode/utf8.acceptRanges", "lapidary/parse.reserved", "unicode.CaseRanges"], plainKeys := false, apart := false, laid := [("unicode/utf8.acceptRanges", laid_unicode_utf8_acceptRanges), ("lapidary/parse.reserved", laid_lapidary_parse_reserved), ("unicode.CaseRanges", laid_unicode_CaseRanges), ("unicode/utf8.first", laid_unicode_utf8_first)] }
def ExecWritesSaid : Prop := execWritesRow.holds Tryz.pinned (OpenSpec.ofChange execWritesSpec)

/-- ITS FALSE NEIGHBOUR: 'it returns false'. Refute it at one input. -/
def execWritesWrong : ChangeSpec := { name := "execWrites", fn := fun _ => fun
  | [d1, d2, d3] => { results := [.lit (.bool false)], args := [d1, d2, d3] }
  | _ => none }
def ExecWritesWrongFalsely : Prop := execWritesRow.holds Tryz.pinned (OpenSpec.ofChange execWritesWrong)

/-- 'lapidarylaw21.DeskControls': WHATEVER THE INPUT: true; the input reads as it did. -/
def deskControlsSpec : ChangeSpec := { name := "deskControls", fn := fun _ => fun
  | [d] => { results := [.lit (.bool true)], args := [d] }
  | _ => none }
def deskControlsRow : OpenClaim := { program := "ytekecchdjkkoeaagreatdoor", sum := "c16d5395c227174a6a6f4df7fa018b903ace5f94c0f1f239db0e06585f0b5877", func := "lapidary/lapidarylaw21.DeskControls", spec := "deskControls", inPlace := ["internal/bytealg.IndexByteString", "internal/abi.NoEscape", "internal/bytealg.MakeNoZero", "internal/bytealg.Compare", "slices.overlaps[lapidary/tree.Entry]", "slices.overlaps[*lapidary/tree.node]"], unfollowed := true, recurses := true, named := ["unicode/utf8.first", "unicode/utf8.acceptRanges", "lapidary/parse.reserved", "unicode.CaseRanges"], plainKeys := false, apart := false, laid := [("unicode/utf8.acceptRanges", laid_unicode_utf8_acceptRanges), ("lapidary/parse.reserved", laid_lapidary_parse_reserved), ("unicode.CaseRanges", laid_unicode_CaseRanges), ("unicode/utf8.first", laid_unicode_utf8_first)] }
def DeskControlsSaid : Prop := deskControlsRow.holds Tryz.pinned (OpenSpec.ofChange deskControlsSpec)

/-- ITS FALSE NEIGHBOUR: 'it returns false'. Refute it at one input. -/
def deskControlsWrong : ChangeSpec := { name := "deskControls", fn := fun _ => fun
  | [d] => { results := [.lit (.bool false)], args := [d] }
  | _ => none }
def DeskControlsWrongFalsely : Prop := deskControlsRow.holds Tryz.pinned (OpenSpec.ofChange deskControlsWrong)

/-- 'lapidarylaw21.DeskSteps': WHATEVER THE INPUT: true; the input reads as it did. -/
def deskStepsSpec : ChangeSpec := { name := "deskSteps", fn := fun _ => fun
  | [d1, d2] => { results := [.lit (.bool true)], args := [d1, d2] }
  | _ => none }
def deskStepsRow : OpenClaim := { program := "ytekecchdjkkoeaagreatdoor", sum := "c16d5395c227174a6a6f4df7fa018b903ace5f94c0f1f239db0e06585f0b5877", func := "lapidary/lapidarylaw21.DeskSteps", spec := "deskSteps", inPlace := ["internal/bytealg.IndexByteString", "internal/abi.NoEscape", "internal/bytealg.MakeNoZero", "internal/bytealg.Compare", "slices.overlaps[lapidary/tree.Entry]", "slices.overlaps[*lapidary/tree.node]"], unfollowed := true, recurses := true, named := ["unicode/utf8.first", "unicode/utf8.acceptRanges", "lapidary/parse.reserved", "unicode.CaseRanges"], plainKeys := false, apart := false, laid := [("unicode/utf8.acceptRanges", laid_unicode_utf8_acceptRanges), ("lapidary/parse.reserved", laid_lapidary_parse_reserved), ("unicode.CaseRanges", laid_unicode_CaseRanges), ("unicode/utf8.first", laid_unicode_utf8_first)] }
def DeskStepsSaid : Prop := deskStepsRow.holds Tryz.pinned (OpenSpec.ofChange deskStepsSpec)

/-- ITS FALSE NEIGHBOUR: 'it returns false'. Refute it at one input. -/
def deskStepsWrong : ChangeSpec := { name := "deskSteps", fn := fun _ => fun
  | [d1, d2] => { results := [.lit (.bool false)], args := [d1, d2] }
  | _ => none }
def DeskStepsWrongFalsely : Prop := deskStepsRow.holds Tryz.pinned (OpenSpec.ofChange deskStepsWrong)

/-- 'lapidarylaw21.DeskCloses': WHATEVER THE INPUT: true; the input reads as it did. -/
def deskClosesSpec : ChangeSpec := { name := "deskCloses", fn := fun _ => fun
  | [d1, d2] => { results := [.lit (.bool true)], args := [d1, d2] }
  | _ => none }
def deskClosesRow : OpenClaim := { program := "ytekecchdjkkoeaagreatdoor", sum := "c16d5395c227174a6a6f4df7fa018b903ace5f94c0f1f239db0e06585f0b5877", func := "lapidary/lapidarylaw21.DeskCloses", spec := "deskCloses", inPlace := ["internal/bytealg.IndexByteString", "internal/abi.NoEscape", "internal/bytealg.MakeNoZero", "internal/bytealg.Compare", "slices.overlaps[lapidary/tree.Entry]", "slices.overlaps[*lapidary/tree.node]"], unfollowed := true, recurses := true, named := ["unicode/utf8.first", "unicode/utf8.acceptRanges", "lapidary/parse.reserved", "unicode.CaseRanges"], plainKeys := false, apart := false, laid := [("unicode/utf8.acceptRanges", laid_unicode_utf8_acceptRanges), ("lapidary/parse.reserved", laid_lapidary_parse_reserved), ("unicode.CaseRanges", laid_unicode_CaseRanges), ("unicode/utf8.first", laid_unicode_utf8_first)] }
def DeskClosesSaid : Prop := deskClosesRow.holds Tryz.pinned (OpenSpec.ofChange deskClosesSpec)

/-- ITS FALSE NEIGHBOUR: 'it returns false'. Refute it at one input. -/
def deskClosesWrong : ChangeSpec := { name := "deskCloses", fn := fun _ => fun
  | [d1, d2] => { results := [.lit (.bool false)], args := [d1, d2] }
  | _ => none }
def DeskClosesWrongFalsely : Prop := deskClosesRow.holds Tryz.pinned (OpenSpec.ofChange deskClosesWrong)

/-- 'lapidarylaw21.DeskNil': WHATEVER THE INPUT: true; the input reads as it did. -/
def deskNilSpec : ChangeSpec := { name := "deskNil", fn := fun _ => fun
  | [d1, d2] => { results := [.lit (.bool true)], args := [d1, d2] }
  | _ => none }
def deskNilRow : OpenClaim := { program := "ytekecchdjkkoeaagreatdoor", sum := "c16d5395c227174a6a6f4df7fa018b903ace5f94c0f1f239db0e06585f0b5877", func := "lapidary/lapidarylaw21.DeskNil", spec := "deskNil", inPlace := ["internal/bytealg.IndexByteString", "internal/abi.NoEscape", "internal/bytealg.MakeNoZero", "internal/bytealg.Compare", "slices.overlaps[lapidary/tree.Entry]", "slices.overlaps[*lapidary/tree.node]"], unfollowed := true, recurses := true, named := ["unicode/utf8.first", "unicode/utf8.acceptRanges", "lapidary/parse.reserved", "unicode.CaseRanges"], plainKeys := false, apart := false, laid := [("unicode/utf8.acceptRanges", laid_unicode_utf8_acceptRanges), ("lapidary/parse.reserved", laid_lapidary_parse_reserved), ("unicode.CaseRanges", laid_unicode_CaseRanges), ("unicode/utf8.first", laid_unicode_utf8_first)] }
def DeskNilSaid : Prop := deskNilRow.holds Tryz.pinned (OpenSpec.ofChange deskNilSpec)

/-- ITS FALSE NEIGHBOUR: 'it returns false'. Refute it at one input. -/
def deskNilWrong : ChangeSpec := { name := "deskNil", fn := fun _ => fun
  | [d1, d2] => { results := [.lit (.bool false)], args := [d1, d2] }
  | _ => none }
def DeskNilWrongFalsely : Prop := deskNilRow.holds Tryz.pinned (OpenSpec.ofChange deskNilWrong)

/- THE SECOND FORM. 'bulk': how many values and letters a reading holds, each counted each time it is reached (what is shared counts as often as it is met; a slice's spare places count too). A statement '..UptoSaid' is the law's where the arguments, and the package variables that the reading takes, are together of bulk at most 1048576: NARROWER than '..Said'. Prove '..Said' where nothing that the law and all that it calls make is longer than what came in: it says more and counts as full. Else prove '..UptoSaid'. A law counts once. -/
mutual
def uptoBulk {H : Type} : DataW H → Nat
  | .lit (.string bytes) => bytes.length + 1
  | .lit _ => 1
  | .nil => 1
  | .ptr d => uptoBulk d + 1
  | .slice elems spare => uptoBulkAll elems + uptoBulkAll spare + 1
  | .agg parts => uptoBulkAll parts + 1
  | .iface _ d => uptoBulk d + 1
  | .map entries => uptoBulkEntries entries + 1
  | .held _ => 1
def uptoBulkAll {H : Type} : List (DataW H) → Nat
  | [] => 0
  | d :: r => uptoBulk d + uptoBulkAll r
def uptoBulkEntries {H : Type} : List (Lit × DataW H) → Nat
  | [] => 0
  | x :: r => uptoBulkEntry x + uptoBulkEntries r
def uptoBulkEntry {H : Type} : Lit × DataW H → Nat
  | (.string bytes, d) => bytes.length + uptoBulk d + 1
  | (_, d) => uptoBulk d + 1
 end
def uptoSmall : (H : Type) → List (DataW H) → Bool := fun _ ds => decide (uptoBulkAll ds ≤ 1048576)
def OpenSpec.upto (s : _root_.Go.ChangeSpec) : _root_.Go.OpenSpec := { _root_.Go.OpenSpec.ofChange s with cond := some uptoSmall }

/-- 'lapidarylaw20.ExecJoins', WHERE WHAT IT READS IS OF BULK AT MOST 1048576: true; the input reads as it did. -/
def execJoinsUptoRow : OpenClaim := { program := "ytekecchdjkkoeaagreatdoor", sum := "c16d5395c227174a6a6f4df7fa018b903ace5f94c0f1f239db0e06585f0b5877", func := "lapidary/lapidarylaw20.ExecJoins", spec := "execJoins", inPlace := ["internal/bytealg.IndexByteString", "internal/abi.NoEscape", "internal/bytealg.MakeNoZero", "internal/bytealg.Compare", "slices.overlaps[lapidary/tree.Entry]", "slices.overlaps[*lapidary/tree.node]"], unfollowed := true, recurses := true, named := ["unicode/utf8.first", "unicode/utf8.acceptRanges", "lapidary/parse.reserved", "unicode.CaseRanges"], plainKeys := false, apart := false, laid := [("unicode/utf8.acceptRanges", laid_unicode_utf8_acceptRanges), ("lapidary/parse.reserved", laid_lapidary_parse_reserved), ("unicode.CaseRanges", laid_unicode_CaseRanges), ("unicode/utf8.first", laid_unicode_utf8_first)], narrowed := true }
def ExecJoinsUptoSaid : Prop := execJoinsUptoRow.holds Tryz.pinned (OpenSpec.upto execJoinsSpec)

/-- 'lapidarylaw20.ExecGroups', WHERE WHAT IT READS IS OF BULK AT MOST 1048576: true; the input reads as it did. -/
def execGroupsUptoRow : OpenClaim := { program := "ytekecchdjkkoeaagreatdoor", sum := "c16d5395c227174a6a6f4df7fa018b903ace5f94c0f1f239db0e06585f0b5877", func := "lapidary/lapidarylaw20.ExecGroups", spec := "execGroups", inPlace := ["internal/bytealg.IndexByteString", "internal/abi.NoEscape", "internal/bytealg.MakeNoZero", "internal/bytealg.Compare", "slices.overlaps[lapidary/tree.Entry]", "slices.overlaps[*lapidary/tree.node]"], unfollowed := true, recurses := true, named := ["unicode/utf8.first", "unicode/utf8.acceptRanges", "lapidary/parse.reserved", "unicode.CaseRanges"], plainKeys := false, apart := false, laid := [("unicode/utf8.acceptRanges", laid_unicode_utf8_acceptRanges), ("lapidary/parse.reserved", laid_lapidary_parse_reserved), ("unicode.CaseRanges", laid_unicode_CaseRanges), ("unicode/utf8.first", laid_unicode_utf8_first)], narrowed := true }
def ExecGroupsUptoSaid : Prop := execGroupsUptoRow.holds Tryz.pinned (OpenSpec.upto execGroupsSpec)

/-- 'lapidarylaw20.ExecWrites', WHERE WHAT IT READS IS OF BULK AT MOST 1048576: true; the input reads as it did. -/
def execWritesUptoRow : OpenClaim := { program := "ytekecchdjkkoeaagreatdoor", sum := "c16d5395c227174a6a6f4df7fa018b903ace5f94c0f1f239db0e06585f0b5877", func := "lapidary/lapidarylaw20.ExecWrites", spec := "execWrites", inPlace := ["internal/bytealg.IndexByteString", "internal/abi.NoEscape", "internal/bytealg.MakeNoZero", "internal/bytealg.Compare", "slices.overlaps[lapidary/tree.Entry]", "slices.overlaps[*lapidary/tree.node]"], unfollowed := true, recurses := true, named := ["unicode/utf8.first", "unicode/utf8.acceptRanges", "lapidary/parse.reserved", "unicode.CaseRanges"], plainKeys := false, apart := false, laid := [("unicode/utf8.acceptRanges", laid_unicode_utf8_acceptRanges), ("lapidary/parse.reserved", laid_lapidary_parse_reserved), ("unicode.CaseRanges", laid_unicode_CaseRanges), ("unicode/utf8.first", laid_unicode_utf8_first)], narrowed := true }
def ExecWritesUptoSaid : Prop := execWritesUptoRow.holds Tryz.pinned (OpenSpec.upto execWritesSpec)

/-- 'lapidarylaw21.DeskControls', WHERE WHAT IT READS IS OF BULK AT MOST 1048576: true; the input reads as it did. -/
def deskControlsUptoRow : OpenClaim := { program := "ytekecchdjkkoeaagreatdoor", sum := "c16d5395c227174a6a6f4df7fa018b903ace5f94c0f1f239db0e06585f0b5877", func := "lapidary/lapidarylaw21.DeskControls", spec := "deskControls", inPlace := ["internal/bytealg.IndexByteString", "internal/abi.NoEscape", "internal/bytealg.MakeNoZero", "internal/bytealg.Compare", "slices.overlaps[lapidary/tree.Entry]", "slices.overlaps[*lapidary/tree.node]"], unfollowed := true, recurses := true, named := ["unicode/utf8.first", "unicode/utf8.acceptRanges", "lapidary/parse.reserved", "unicode.CaseRanges"], plainKeys := false, apart := false, laid := [("unicode/utf8.acceptRanges", laid_unicode_utf8_acceptRanges), ("lapidary/parse.reserved", laid_lapidary_parse_reserved), ("unicode.CaseRanges", laid_unicode_CaseRanges), ("unicode/utf8.first", laid_unicode_utf8_first)], narrowed := true }
def DeskControlsUptoSaid : Prop := deskControlsUptoRow.holds Tryz.pinned (OpenSpec.upto deskControlsSpec)

/-- 'lapidarylaw21.DeskSteps', WHERE WHAT IT READS IS OF BULK AT MOST 1048576: true; the input reads as it did. -/
def deskStepsUptoRow : OpenClaim := { program := "ytekecchdjkkoeaagreatdoor", sum := "c16d5395c227174a6a6f4df7fa018b903ace5f94c0f1f239db0e06585f0b5877", func := "lapidary/lapidarylaw21.DeskSteps", spec := "deskSteps", inPlace := ["internal/bytealg.IndexByteString", "internal/abi.NoEscape", "internal/bytealg.MakeNoZero", "internal/bytealg.Compare", "slices.overlaps[lapidary/tree.Entry]", "slices.overlaps[*lapidary/tree.node]"], unfollowed := true, recurses := true, named := ["unicode/utf8.first", "unicode/utf8.acceptRanges", "lapidary/parse.reserved", "unicode.CaseRanges"], plainKeys := false, apart := false, laid := [("unicode/utf8.acceptRanges", laid_unicode_utf8_acceptRanges), ("lapidary/parse.reserved", laid_lapidary_parse_reserved), ("unicode.CaseRanges", laid_unicode_CaseRanges), ("unicode/utf8.first", laid_unicode_utf8_first)], narrowed := true }
def DeskStepsUptoSaid : Prop := deskStepsUptoRow.holds Tryz.pinned (OpenSpec.upto deskStepsSpec)

/-- 'lapidarylaw21.DeskCloses', WHERE WHAT IT READS IS OF BULK AT MOST 1048576: true; the input reads as it did. -/
def deskClosesUptoRow : OpenClaim := { program := "ytekecchdjkkoeaagreatdoor", sum := "c16d5395c227174a6a6f4df7fa018b903ace5f94c0f1f239db0e06585f0b5877", func := "lapidary/lapidarylaw21.DeskCloses", spec := "deskCloses", inPlace := ["internal/bytealg.IndexByteString", "internal/abi.NoEscape", "internal/bytealg.MakeNoZero", "internal/bytealg.Compare", "slices.overlaps[lapidary/tree.Entry]", "slices.overlaps[*lapidary/tree.node]"], unfollowed := true, recurses := true, named := ["unicode/utf8.first", "unicode/utf8.acceptRanges", "lapidary/parse.reserved", "unicode.CaseRanges"], plainKeys := false, apart := false, laid := [("unicode/utf8.acceptRanges", laid_unicode_utf8_acceptRanges), ("lapidary/parse.reserved", laid_lapidary_parse_reserved), ("unicode.CaseRanges", laid_unicode_CaseRanges), ("unicode/utf8.first", laid_unicode_utf8_first)], narrowed := true }
def DeskClosesUptoSaid : Prop := deskClosesUptoRow.holds Tryz.pinned (OpenSpec.upto deskClosesSpec)

/-- 'lapidarylaw21.DeskNil', WHERE WHAT IT READS IS OF BULK AT MOST 1048576: true; the input reads as it did. -/
def deskNilUptoRow : OpenClaim := { program := "ytekecchdjkkoeaagreatdoor", sum := "c16d5395c227174a6a6f4df7fa018b903ace5f94c0f1f239db0e06585f0b5877", func := "lapidary/lapidarylaw21.DeskNil", spec := "deskNil", inPlace := ["internal/bytealg.IndexByteString", "internal/abi.NoEscape", "internal/bytealg.MakeNoZero", "internal/bytealg.Compare", "slices.overlaps[lapidary/tree.Entry]", "slices.overlaps[*lapidary/tree.node]"], unfollowed := true, recurses := true, named := ["unicode/utf8.first", "unicode/utf8.acceptRanges", "lapidary/parse.reserved", "unicode.CaseRanges"], plainKeys := false, apart := false, laid := [("unicode/utf8.acceptRanges", laid_unicode_utf8_acceptRanges), ("lapidary/parse.reserved", laid_lapidary_parse_reserved), ("unicode.CaseRanges", laid_unicode_CaseRanges), ("unicode/utf8.first", laid_unicode_utf8_first)], narrowed := true }
def DeskNilUptoSaid : Prop := deskNilUptoRow.holds Tryz.pinned (OpenSpec.upto deskNilSpec)

end Rows
end Go.Proofs.YtekecchdjkkoeaaGreatDoor
