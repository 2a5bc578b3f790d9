/-
  NARROWER THAN 'FOR EVERY INPUT', by the rows' own cells (each row's printed sentence says how): CliticValid: laid · CliticAttaches: laid · CliticSplits: laid · CliticPlain: laid · CliticUnaffected: laid · CliticSegments: laid · CliticFinds: laid · CliticConcatenates: laid.
  DERIVED. THE GIVEN ROWS OF THIS SEAT. 8 by the template 'for every input the law returns true; each argument reads behind the call as it read before'; 0 by the template 'total and deterministic' (their statements: YtmmdhmlbbajjiaaDoorTotals.lean).
  GIVEN WITH THE SEED: the statements are not yours to turn. If you find one false, say at which input.
  Laid BY PROGRAM, IN A SANDBOX (cutbox-rows.mjs): the forced cells as the released guide's own fill.sh prints them over the translation 52bee45daff87353… (all of the seat's roots in one cut). By AI agents, Wed Nov 11 2026. No macro, syntax, notation, axiom, sorry.
-/
import Derived.Test.YtmmdhmlbbajjiaaDoorChecked
import GoSem.PinnedTables
import GoSem.Claim
import GoSem.ClaimJoined
import GoSem.ClaimMapViews
import Derived.JoinedTies
import Derived.KernelRfl
namespace Go.Proofs.YtmmdhmlbbajjiaaDoor
/- THE CELL 'sum', in the pinned program and in every row, IS THE sha256 OF THE DUMP (.gsa) THAT YtmmdhmlbbajjiaaDoorProg.lean LOADS. Nothing in Lean hashes anything: it is a label: what it is worth is what the hold of that sum in a sandbox is worth. -/
noncomputable def Tryd.pinned : Pinned := { name := "ytmmdhmlbbajjiaadoor", sum := "52bee45daff87353a03dd3b6fd092cbc64fff6c40b696dd0b52556100edf6380", checked := Tryd.checked }
namespace Rows
def none {H : Type} : Left H := { results := [], args := [] }

/- WHAT THE LISTED PACKAGE-LEVEL VARIABLES READ AS WHEN THE CALL BEGINS. Each datum BY PROGRAM (the guide's laid-datum.mjs) off the statement by which the dump's own 'gosem.cut.vars' lays the variable. In a bare row this is a premise. The card (YtmmdhmlbbajjiaaDoorCards.lean) ties it to the program's text. -/
def laid_unicode_utf8_acceptRanges {H : Type} : DataW H := .agg [.agg [.lit (.int .u8 128), .lit (.int .u8 191)], .agg [.lit (.int .u8 160), .lit (.int .u8 191)], .agg [.lit (.int .u8 128), .lit (.int .u8 159)], .agg [.lit (.int .u8 144), .lit (.int .u8 191)], .agg [.lit (.int .u8 128), .lit (.int .u8 143)], .agg [.lit (.int .u8 0), .lit (.int .u8 0)], .agg [.lit (.int .u8 0), .lit (.int .u8 0)], .agg [.lit (.int .u8 0), .lit (.int .u8 0)], .agg [.lit (.int .u8 0), .lit (.int .u8 0)], .agg [.lit (.int .u8 0), .lit (.int .u8 0)], .agg [.lit (.int .u8 0), .lit (.int .u8 0)], .agg [.lit (.int .u8 0), .lit (.int .u8 0)], .agg [.lit (.int .u8 0), .lit (.int .u8 0)], .agg [.lit (.int .u8 0), .lit (.int .u8 0)], .agg [.lit (.int .u8 0), .lit (.int .u8 0)], .agg [.lit (.int .u8 0), .lit (.int .u8 0)]]
/-- One of Go's own tables, pinned by name: the form's constant. -/
def laid_unicode_utf8_first : DataW Unit := Go.Pinned.utf8First

/-- 'pentaglotlaw14.CliticValid': WHATEVER THE INPUT: true; the input reads as it did. -/
def cliticValidSpec : ChangeSpec := { name := "cliticValid", fn := fun _ => fun
  | [d1, d2] => { results := [.lit (.bool true)], args := [d1, d2] }
  | _ => none }
def cliticValidRow : OpenClaim := { program := "ytmmdhmlbbajjiaadoor", sum := "52bee45daff87353a03dd3b6fd092cbc64fff6c40b696dd0b52556100edf6380", func := "pentaglot/pentaglotlaw14.CliticValid", spec := "cliticValid", inPlace := ["internal/bytealg.IndexByteString", "internal/abi.NoEscape"], unfollowed := true, recurses := true, named := ["unicode/utf8.first", "unicode/utf8.acceptRanges"], apart := false, laid := [("unicode/utf8.acceptRanges", laid_unicode_utf8_acceptRanges), ("unicode/utf8.first", laid_unicode_utf8_first)] }
def CliticValidSaid : Prop := cliticValidRow.holds Tryd.pinned (OpenSpec.ofChange cliticValidSpec)

/-- ITS FALSE NEIGHBOUR: 'it returns false'. Refute it at one input. -/
def cliticValidWrong : ChangeSpec := { name := "cliticValid", fn := fun _ => fun
  | [d1, d2] => { results := [.lit (.bool false)], args := [d1, d2] }
  | _ => none }
def CliticValidWrongFalsely : Prop := cliticValidRow.holds Tryd.pinned (OpenSpec.ofChange cliticValidWrong)

/-- 'pentaglotlaw14.CliticAttaches': WHATEVER THE INPUT: true; the input reads as it did. -/
def cliticAttachesSpec : ChangeSpec := { name := "cliticAttaches", fn := fun _ => fun
  | [d1, d2, d3, d4] => { results := [.lit (.bool true)], args := [d1, d2, d3, d4] }
  | _ => none }
def cliticAttachesRow : OpenClaim := { program := "ytmmdhmlbbajjiaadoor", sum := "52bee45daff87353a03dd3b6fd092cbc64fff6c40b696dd0b52556100edf6380", func := "pentaglot/pentaglotlaw14.CliticAttaches", spec := "cliticAttaches", inPlace := ["internal/bytealg.IndexByteString", "internal/abi.NoEscape"], unfollowed := true, recurses := true, named := ["unicode/utf8.first", "unicode/utf8.acceptRanges"], apart := false, laid := [("unicode/utf8.acceptRanges", laid_unicode_utf8_acceptRanges), ("unicode/utf8.first", laid_unicode_utf8_first)] }
def CliticAttachesSaid : Prop := cliticAttachesRow.holds Tryd.pinned (OpenSpec.ofChange cliticAttachesSpec)

/-- ITS FALSE NEIGHBOUR: 'it returns false'. Refute it at one input. -/
def cliticAttachesWrong : ChangeSpec := { name := "cliticAttaches", fn := fun _ => fun
  | [d1, d2, d3, d4] => { results := [.lit (.bool false)], args := [d1, d2, d3, d4] }
  | _ => none }
def CliticAttachesWrongFalsely : Prop := cliticAttachesRow.holds Tryd.pinned (OpenSpec.ofChange cliticAttachesWrong)

/-- 'pentaglotlaw14.CliticSplits': WHATEVER THE INPUT: true; the input reads as it did. -/
def cliticSplitsSpec : ChangeSpec := { name := "cliticSplits", fn := fun _ => fun
  | [d1, d2, d3, d4, d5] => { results := [.lit (.bool true)], args := [d1, d2, d3, d4, d5] }
  | _ => none }
def cliticSplitsRow : OpenClaim := { program := "ytmmdhmlbbajjiaadoor", sum := "52bee45daff87353a03dd3b6fd092cbc64fff6c40b696dd0b52556100edf6380", func := "pentaglot/pentaglotlaw14.CliticSplits", spec := "cliticSplits", inPlace := ["internal/bytealg.IndexByteString", "internal/abi.NoEscape"], unfollowed := true, recurses := true, named := ["unicode/utf8.first", "unicode/utf8.acceptRanges"], apart := false, laid := [("unicode/utf8.acceptRanges", laid_unicode_utf8_acceptRanges), ("unicode/utf8.first", laid_unicode_utf8_first)] }
def CliticSplitsSaid : Prop := cliticSplitsRow.holds Tryd.pinned (OpenSpec.ofChange cliticSplitsSpec)

/-- ITS FALSE NEIGHBOUR: 'it returns false'. Refute it at one input. -/
def cliticSplitsWrong : ChangeSpec := { name := "cliticSplits", fn := fun _ => fun
  | [d1, d2, d3, d4, d5] => { results := [.lit (.bool false)], args := [d1, d2, d3, d4, d5] }
  | _ => none }
def CliticSplitsWrongFalsely : Prop := cliticSplitsRow.holds Tryd.pinned (OpenSpec.ofChange cliticSplitsWrong)

/-- 'pentaglotlaw14.CliticPlain': WHATEVER THE INPUT: true; the input reads as it did. -/
def cliticPlainSpec : ChangeSpec := { name := "cliticPlain", fn := fun _ => fun
  | [d1, d2, d3, d4] => { results := [.lit (.bool true)], args := [d1, d2, d3, d4] }
  | _ => none }
def cliticPlainRow : OpenClaim := { program := "ytmmdhmlbbajjiaadoor", sum := "52bee45daff87353a03dd3b6fd092cbc64fff6c40b696dd0b52556100edf6380", func := "pentaglot/pentaglotlaw14.CliticPlain", spec := "cliticPlain", inPlace := ["internal/bytealg.IndexByteString", "internal/abi.NoEscape"], unfollowed := true, recurses := true, named := ["unicode/utf8.first", "unicode/utf8.acceptRanges"], apart := false, laid := [("unicode/utf8.acceptRanges", laid_unicode_utf8_acceptRanges), ("unicode/utf8.first", laid_unicode_utf8_first)] }
def CliticPlainSaid : Prop := cliticPlainRow.holds Tryd.pinned (OpenSpec.ofChange cliticPlainSpec)

/-- ITS FALSE NEIGHBOUR: 'it returns false'. Refute it at one input. -/
def cliticPlainWrong : ChangeSpec := { name := "cliticPlain", fn := fun _ => fun
  | [d1, d2, d3, d4] => { results := [.lit (.bool false)], args := [d1, d2, d3, d4] }
  | _ => none }
def CliticPlainWrongFalsely : Prop := cliticPlainRow.holds Tryd.pinned (OpenSpec.ofChange cliticPlainWrong)

/-- 'pentaglotlaw14.CliticUnaffected': WHATEVER THE INPUT: true; the input reads as it did. -/
def cliticUnaffectedSpec : ChangeSpec := { name := "cliticUnaffected", fn := fun _ => fun
  | [d1, d2, d3, d4] => { results := [.lit (.bool true)], args := [d1, d2, d3, d4] }
  | _ => none }
def cliticUnaffectedRow : OpenClaim := { program := "ytmmdhmlbbajjiaadoor", sum := "52bee45daff87353a03dd3b6fd092cbc64fff6c40b696dd0b52556100edf6380", func := "pentaglot/pentaglotlaw14.CliticUnaffected", spec := "cliticUnaffected", inPlace := ["internal/bytealg.IndexByteString", "internal/abi.NoEscape"], unfollowed := true, recurses := true, named := ["unicode/utf8.first", "unicode/utf8.acceptRanges"], apart := false, laid := [("unicode/utf8.acceptRanges", laid_unicode_utf8_acceptRanges), ("unicode/utf8.first", laid_unicode_utf8_first)] }
def CliticUnaffectedSaid : Prop := cliticUnaffectedRow.holds Tryd.pinned (OpenSpec.ofChange cliticUnaffectedSpec)

/-- ITS FALSE NEIGHBOUR: 'it returns false'. Refute it at one input. -/
def cliticUnaffectedWrong : ChangeSpec := { name := "cliticUnaffected", fn := fun _ => fun
  | [d1, d2, d3, d4] => { results := [.lit (.bool false)], args := [d1, d2, d3, d4] }
  | _ => none }
def CliticUnaffectedWrongFalsely : Prop := cliticUnaffectedRow.holds Tryd.pinned (OpenSpec.ofChange cliticUnaffectedWrong)

/-- 'pentaglotlaw14.CliticSegments': WHATEVER THE INPUT: true; the input reads as it did. -/
def cliticSegmentsSpec : ChangeSpec := { name := "cliticSegments", fn := fun _ => fun
  | [d1, d2, d3] => { results := [.lit (.bool true)], args := [d1, d2, d3] }
  | _ => none }
def cliticSegmentsRow : OpenClaim := { program := "ytmmdhmlbbajjiaadoor", sum := "52bee45daff87353a03dd3b6fd092cbc64fff6c40b696dd0b52556100edf6380", func := "pentaglot/pentaglotlaw14.CliticSegments", spec := "cliticSegments", inPlace := ["internal/bytealg.IndexByteString", "internal/abi.NoEscape"], unfollowed := true, recurses := true, named := ["unicode/utf8.first", "unicode/utf8.acceptRanges"], apart := false, laid := [("unicode/utf8.acceptRanges", laid_unicode_utf8_acceptRanges), ("unicode/utf8.first", laid_unicode_utf8_first)] }
def CliticSegmentsSaid : Prop := cliticSegmentsRow.holds Tryd.pinned (OpenSpec.ofChange cliticSegmentsSpec)

/-- ITS FALSE NEIGHBOUR: 'it returns false'. Refute it at one input. -/
def cliticSegmentsWrong : ChangeSpec := { name := "cliticSegments", fn := fun _ => fun
  | [d1, d2, d3] => { results := [.lit (.bool false)], args := [d1, d2, d3] }
  | _ => none }
def CliticSegmentsWrongFalsely : Prop := cliticSegmentsRow.holds Tryd.pinned (OpenSpec.ofChange cliticSegmentsWrong)

/-- 'pentaglotlaw14.CliticFinds': WHATEVER THE INPUT: true; the input reads as it did. -/
def cliticFindsSpec : ChangeSpec := { name := "cliticFinds", fn := fun _ => fun
  | [d1, d2, d3, d4, d5] => { results := [.lit (.bool true)], args := [d1, d2, d3, d4, d5] }
  | _ => none }
def cliticFindsRow : OpenClaim := { program := "ytmmdhmlbbajjiaadoor", sum := "52bee45daff87353a03dd3b6fd092cbc64fff6c40b696dd0b52556100edf6380", func := "pentaglot/pentaglotlaw14.CliticFinds", spec := "cliticFinds", inPlace := ["internal/bytealg.IndexByteString", "internal/abi.NoEscape"], unfollowed := true, recurses := true, named := ["unicode/utf8.first", "unicode/utf8.acceptRanges"], apart := false, laid := [("unicode/utf8.acceptRanges", laid_unicode_utf8_acceptRanges), ("unicode/utf8.first", laid_unicode_utf8_first)] }
def CliticFindsSaid : Prop := cliticFindsRow.holds Tryd.pinned (OpenSpec.ofChange cliticFindsSpec)

/-- ITS FALSE NEIGHBOUR: 'it returns false'. Refute it at one input. -/
def cliticFindsWrong : ChangeSpec := { name := "cliticFinds", fn := fun _ => fun
  | [d1, d2, d3, d4, d5] => { results := [.lit (.bool false)], args := [d1, d2, d3, d4, d5] }
  | _ => none }
def CliticFindsWrongFalsely : Prop := cliticFindsRow.holds Tryd.pinned (OpenSpec.ofChange cliticFindsWrong)

/-- 'pentaglotlaw14.CliticConcatenates': WHATEVER THE INPUT: true; the input reads as it did. -/
def cliticConcatenatesSpec : ChangeSpec := { name := "cliticConcatenates", fn := fun _ => fun
  | [d1, d2] => { results := [.lit (.bool true)], args := [d1, d2] }
  | _ => none }
def cliticConcatenatesRow : OpenClaim := { program := "ytmmdhmlbbajjiaadoor", sum := "52bee45daff87353a03dd3b6fd092cbc64fff6c40b696dd0b52556100edf6380", func := "pentaglot/pentaglotlaw14.CliticConcatenates", spec := "cliticConcatenates", inPlace := ["internal/bytealg.IndexByteString", "internal/abi.NoEscape"], unfollowed := true, recurses := true, named := ["unicode/utf8.first", "unicode/utf8.acceptRanges"], apart := false, laid := [("unicode/utf8.acceptRanges", laid_unicode_utf8_acceptRanges), ("unicode/utf8.first", laid_unicode_utf8_first)] }
def CliticConcatenatesSaid : Prop := cliticConcatenatesRow.holds Tryd.pinned (OpenSpec.ofChange cliticConcatenatesSpec)

/-- ITS FALSE NEIGHBOUR: 'it returns false'. Refute it at one input. -/
def cliticConcatenatesWrong : ChangeSpec := { name := "cliticConcatenates", fn := fun _ => fun
  | [d1, d2] => { results := [.lit (.bool false)], args := [d1, d2] }
  | _ => none }
def CliticConcatenatesWrongFalsely : Prop := cliticConcatenatesRow.holds Tryd.pinned (OpenSpec.ofChange cliticConcatenatesWrong)

/- THE SECOND FORM. 'bulk': how many values and letters a reading holds, each counted each time it is reached (what is shared counts as often as it is met; a slice's spare places count too). A statement '..UptoSaid' is the law's where the arguments, and the package variables that the reading takes, are together of bulk at most 1048576: NARROWER than '..Said'. Prove '..Said' where nothing that the law and all that it calls make is longer than what came in: it says more and counts as full. Else prove '..UptoSaid'. A law counts once. -/
mutual
def uptoBulk {H : Type} : DataW H → Nat
  | .lit (.string bytes) => bytes.length + 1
  | .lit _ => 1
  | .nil => 1
  | .ptr d => uptoBulk d + 1
  | .slice elems spare => uptoBulkAll elems + uptoBulkAll spare + 1
  | .agg parts => uptoBulkAll parts + 1
  | .iface _ d => uptoBulk d + 1
  | .map entries => uptoBulkEntries entries + 1
  | .held _ => 1
def uptoBulkAll {H : Type} : List (DataW H) → Nat
  | [] => 0
  | d :: r => uptoBulk d + uptoBulkAll r
def uptoBulkEntries {H : Type} : List (Lit × DataW H) → Nat
  | [] => 0
  | x :: r => uptoBulkEntry x + uptoBulkEntries r
def uptoBulkEntry {H : Type} : Lit × DataW H → Nat
  | (.string bytes, d) => bytes.length + uptoBulk d + 1
  | (_, d) => uptoBulk d + 1
 end
def uptoSmall : (H : Type) → List (DataW H) → Bool := fun _ ds => decide (uptoBulkAll ds ≤ 1048576)
def OpenSpec.upto (s : _root_.Go.ChangeSpec) : _root_.Go.OpenSpec := { _root_.Go.OpenSpec.ofChange s with cond := some uptoSmall }

/-- 'pentaglotlaw14.CliticValid', WHERE WHAT IT READS IS OF BULK AT MOST 1048576: true; the input reads as it did. -/
def cliticValidUptoRow : OpenClaim := { program := "ytmmdhmlbbajjiaadoor", sum := "52bee45daff87353a03dd3b6fd092cbc64fff6c40b696dd0b52556100edf6380", func := "pentaglot/pentaglotlaw14.CliticValid", spec := "cliticValid", inPlace := ["internal/bytealg.IndexByteString", "internal/abi.NoEscape"], unfollowed := true, recurses := true, named := ["unicode/utf8.first", "unicode/utf8.acceptRanges"], apart := false, laid := [("unicode/utf8.acceptRanges", laid_unicode_utf8_acceptRanges), ("unicode/utf8.first", laid_unicode_utf8_first)], narrowed := true }
def CliticValidUptoSaid : Prop := cliticValidUptoRow.holds Tryd.pinned (OpenSpec.upto cliticValidSpec)

/-- 'pentaglotlaw14.CliticAttaches', WHERE WHAT IT READS IS OF BULK AT MOST 1048576: true; the input reads as it did. -/
def cliticAttachesUptoRow : OpenClaim := { program := "ytmmdhmlbbajjiaadoor", sum := "52bee45daff87353a03dd3b6fd092cbc64fff6c40b696dd0b52556100edf6380", func := "pentaglot/pentaglotlaw14.CliticAttaches", spec := "cliticAttaches", inPlace := ["internal/bytealg.IndexByteString", "internal/abi.NoEscape"], unfollowed := true, recurses := true, named := ["unicode/utf8.first", "unicode/utf8.acceptRanges"], apart := false, laid := [("unicode/utf8.acceptRanges", laid_unicode_utf8_acceptRanges), ("unicode/utf8.first", laid_unicode_utf8_first)], narrowed := true }
def CliticAttachesUptoSaid : Prop := cliticAttachesUptoRow.holds Tryd.pinned (OpenSpec.upto cliticAttachesSpec)

/-- 'pentaglotlaw14.CliticSplits', WHERE WHAT IT READS IS OF BULK AT MOST 1048576: true; the input reads as it did. -/
def cliticSplitsUptoRow : OpenClaim := { program := "ytmmdhmlbbajjiaadoor", sum := "52bee45daff87353a03dd3b6fd092cbc64fff6c40b696dd0b52556100edf6380", func := "pentaglot/pentaglotlaw14.CliticSplits", spec := "cliticSplits", inPlace := ["internal/bytealg.IndexByteString", "internal/abi.NoEscape"], unfollowed := true, recurses := true, named := ["unicode/utf8.first", "unicode/utf8.acceptRanges"], apart := false, laid := [("unicode/utf8.acceptRanges", laid_unicode_utf8_acceptRanges), ("unicode/utf8.first", laid_unicode_utf8_first)], narrowed := true }
def CliticSplitsUptoSaid : Prop := cliticSplitsUptoRow.holds Tryd.pinned (OpenSpec.upto cliticSplitsSpec)

/-- 'pentaglotlaw14.CliticPlain', WHERE WHAT IT READS IS OF BULK AT MOST 1048576: true; the input reads as it did. -/
def cliticPlainUptoRow : OpenClaim := { program := "ytmmdhmlbbajjiaadoor", sum := "52bee45daff87353a03dd3b6fd092cbc64fff6c40b696dd0b52556100edf6380", func := "pentaglot/pentaglotlaw14.CliticPlain", spec := "cliticPlain", inPlace := ["internal/bytealg.IndexByteString", "internal/abi.NoEscape"], unfollowed := true, recurses := true, named := ["unicode/utf8.first", "unicode/utf8.acceptRanges"], apart := false, laid := [("unicode/utf8.acceptRanges", laid_unicode_utf8_acceptRanges), ("unicode/utf8.first", laid_unicode_utf8_first)], narrowed := true }
def CliticPlainUptoSaid : Prop := cliticPlainUptoRow.holds Tryd.pinned (OpenSpec.upto cliticPlainSpec)

/-- 'pentaglotlaw14.CliticUnaffected', WHERE WHAT IT READS IS OF BULK AT MOST 1048576: true; the input reads as it did. -/
def cliticUnaffectedUptoRow : OpenClaim := { program := "ytmmdhmlbbajjiaadoor", sum := "52bee45daff87353a03dd3b6fd092cbc64fff6c40b696dd0b52556100edf6380", func := "pentaglot/pentaglotlaw14.CliticUnaffected", spec := "cliticUnaffected", inPlace := ["internal/bytealg.IndexByteString", "internal/abi.NoEscape"], unfollowed := true, recurses := true, named := ["unicode/utf8.first", "unicode/utf8.acceptRanges"], apart := false, laid := [("unicode/utf8.acceptRanges", laid_unicode_utf8_acceptRanges), ("unicode/utf8.first", laid_unicode_utf8_first)], narrowed := true }
def CliticUnaffectedUptoSaid : Prop := cliticUnaffectedUptoRow.holds Tryd.pinned (OpenSpec.upto cliticUnaffectedSpec)

/-- 'pentaglotlaw14.CliticSegments', WHERE WHAT IT READS IS OF BULK AT MOST 1048576: true; the input reads as it did. -/
def cliticSegmentsUptoRow : OpenClaim := { program := "ytmmdhmlbbajjiaadoor", sum := "52bee45daff87353a03dd3b6fd092cbc64fff6c40b696dd0b52556100edf6380", func := "pentaglot/pentaglotlaw14.CliticSegments", spec := "cliticSegments", inPlace := ["internal/bytealg.IndexByteString", "internal/abi.NoEscape"], unfollowed := true, recurses := true, named := ["unicode/utf8.first", "unicode/utf8.acceptRanges"], apart := false, laid := [("unicode/utf8.acceptRanges", laid_unicode_utf8_acceptRanges), ("unicode/utf8.first", laid_unicode_utf8_first)], narrowed := true }
def CliticSegmentsUptoSaid : Prop := cliticSegmentsUptoRow.holds Tryd.pinned (OpenSpec.upto cliticSegmentsSpec)

/-- 'pentaglotlaw14.CliticFinds', WHERE WHAT IT READS IS OF BULK AT MOST 1048576: true; the input reads as it did. -/
def cliticFindsUptoRow : OpenClaim := { program := "ytmmdhmlbbajjiaadoor", sum := "52bee45daff87353a03dd3b6fd092cbc64fff6c40b696dd0b52556100edf6380", func := "pentaglot/pentaglotlaw14.CliticFinds", spec := "cliticFinds", inPlace := ["internal/bytealg.IndexByteString", "internal/abi.NoEscape"], unfollowed := true, recurses := true, named := ["unicode/utf8.first", "unicode/utf8.acceptRanges"], apart := false, laid := [("unicode/utf8.acceptRanges", laid_unicode_utf8_acceptRanges), ("unicode/utf8.first", laid_unicode_utf8_first)], narrowed := true }
def CliticFindsUptoSaid : Prop := cliticFindsUptoRow.holds Tryd.pinned (OpenSpec.upto cliticFindsSpec)

/-- 'pentaglotlaw14.CliticConcatenates', WHERE WHAT IT READS IS OF BULK AT MOST 1048576: true; the input reads as it did. -/
def cliticConcatenatesUptoRow : OpenClaim := { program := "ytmmdhmlbbajjiaadoor", sum := "52bee45daff87353a03dd3b6fd092cbc64fff6c40b696dd0b52556100edf6380", func := "pentaglot/pentaglotlaw14.CliticConcatenates", spec := "cliticConcatenates", inPlace := ["internal/bytealg.IndexByteString", "internal/abi.NoEscape"], unfollowed := true, recurses := true, named := ["unicode/utf8.first", "unicode/utf8.acceptRanges"], apart := false, laid := [("unicode/utf8.acceptRanges", laid_unicode_utf8_acceptRanges), ("unicode/utf8.first", laid_unicode_utf8_first)], narrowed := true }
def CliticConcatenatesUptoSaid : Prop := cliticConcatenatesUptoRow.holds Tryd.pinned (OpenSpec.upto cliticConcatenatesSpec)

end Rows
end Go.Proofs.YtmmdhmlbbajjiaaDoor
