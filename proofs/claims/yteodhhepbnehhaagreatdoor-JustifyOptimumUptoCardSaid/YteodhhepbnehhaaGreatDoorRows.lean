/-
  NARROWER THAN 'FOR EVERY INPUT', by the rows' own cells (each row's printed sentence says how): JustifySpreads: laid · JustifyGaps: laid · JustifyParagraphs: laid · JustifyOptimum: laid · JustifyPages: laid · JustifyWidths: laid · JustifyReturns: laid · JustifyPlain: laid · JustifySheets: laid.
  DERIVED. THE GIVEN ROWS OF THIS SEAT. 9 by the template 'for every input the law returns true; each argument reads behind the call as it read before'; 0 by the template 'total and deterministic' (their statements: YteodhhepbnehhaaGreatDoorTotals.lean).
  GIVEN WITH THE SEED: the statements are not yours to turn. If you find one false, say at which input.
  Laid BY PROGRAM, IN A SANDBOX (cutbox-rows.mjs): the forced cells as the released guide's own fill.sh prints them over the translation d433be2b3923e206… (all of the seat's roots in one cut). By AI agents, Wed Nov 11 2026. No macro, syntax, notation, axiom, sorry.
-/
import Derived.Test.YteodhhepbnehhaaGreatDoorChecked
import GoSem.PinnedTables
import GoSem.Claim
import GoSem.ClaimJoined
import GoSem.ClaimMapViews
import Derived.JoinedTies
import Derived.KernelRfl
namespace Go.Proofs.YteodhhepbnehhaaGreatDoor
/- THE CELL 'sum', in the pinned program and in every row, IS THE sha256 OF THE DUMP (.gsa) THAT YteodhhepbnehhaaGreatDoorProg.lean LOADS. Nothing in Lean hashes anything: it is a label: what it is worth is what the hold of that sum in a sandbox is worth. -/
noncomputable def Tryz.pinned : Pinned := { name := "yteodhhepbnehhaagreatdoor", sum := "d433be2b3923e206a8efe5583b6aae974b9ee04f197adc920a34edf9fe75e006", checked := Tryz.checked }
namespace Rows
def none {H : Type} : Left H := { results := [], args := [] }

/- WHAT THE LISTED PACKAGE-LEVEL VARIABLES READ AS WHEN THE CALL BEGINS. Each datum BY PROGRAM (the guide's laid-datum.mjs) off the statement by which the dump's own 'gosem.cut.vars' lays the variable. In a bare row this is a premise. The card (YteodhhepbnehhaaGreatDoorCards.lean) ties it to the program's text. -/
def laid_unicode_utf8_acceptRanges {H : Type} : DataW H := .agg [.agg [.lit (.int .u8 128), .lit (.int .u8 191)], .agg [.lit (.int .u8 160), .lit (.int .u8 191)], .agg [.lit (.int .u8 128), .lit (.int .u8 159)], .agg [.lit (.int .u8 144), .lit (.int .u8 191)], .agg [.lit (.int .u8 128), .lit (.int .u8 143)], .agg [.lit (.int .u8 0), .lit (.int .u8 0)], .agg [.lit (.int .u8 0), .lit (.int .u8 0)], .agg [.lit (.int .u8 0), .lit (.int .u8 0)], .agg [.lit (.int .u8 0), .lit (.int .u8 0)], .agg [.lit (.int .u8 0), .lit (.int .u8 0)], .agg [.lit (.int .u8 0), .lit (.int .u8 0)], .agg [.lit (.int .u8 0), .lit (.int .u8 0)], .agg [.lit (.int .u8 0), .lit (.int .u8 0)], .agg [.lit (.int .u8 0), .lit (.int .u8 0)], .agg [.lit (.int .u8 0), .lit (.int .u8 0)], .agg [.lit (.int .u8 0), .lit (.int .u8 0)]]
/-- One of Go's own tables, pinned by name: the form's constant. -/
def laid_unicode_utf8_first : DataW Unit := Go.Pinned.utf8First

/-- 'pentaglotlaw50.JustifySpreads': WHATEVER THE INPUT: true; the input reads as it did. -/
def justifySpreadsSpec : ChangeSpec := { name := "justifySpreads", fn := fun _ => fun
  | [d1, d2, d3] => { results := [.lit (.bool true)], args := [d1, d2, d3] }
  | _ => none }
def justifySpreadsRow : OpenClaim := { program := "yteodhhepbnehhaagreatdoor", sum := "d433be2b3923e206a8efe5583b6aae974b9ee04f197adc920a34edf9fe75e006", func := "pentaglot/pentaglotlaw50.JustifySpreads", spec := "justifySpreads", inPlace := ["internal/bytealg.IndexByteString", "internal/bytealg.IndexString", "internal/abi.NoEscape", "internal/bytealg.MakeNoZero", "internal/bytealg.CountString"], unfollowed := true, recurses := true, named := ["unicode/utf8.first", "unicode/utf8.acceptRanges", "internal/bytealg.MaxLen"], apart := false, laid := [("unicode/utf8.acceptRanges", laid_unicode_utf8_acceptRanges), ("unicode/utf8.first", laid_unicode_utf8_first)] }
def JustifySpreadsSaid : Prop := justifySpreadsRow.holds Tryz.pinned (OpenSpec.ofChange justifySpreadsSpec)

/-- ITS FALSE NEIGHBOUR: 'it returns false'. Refute it at one input. -/
def justifySpreadsWrong : ChangeSpec := { name := "justifySpreads", fn := fun _ => fun
  | [d1, d2, d3] => { results := [.lit (.bool false)], args := [d1, d2, d3] }
  | _ => none }
def JustifySpreadsWrongFalsely : Prop := justifySpreadsRow.holds Tryz.pinned (OpenSpec.ofChange justifySpreadsWrong)

/-- 'pentaglotlaw50.JustifyGaps': WHATEVER THE INPUT: true; the input reads as it did. -/
def justifyGapsSpec : ChangeSpec := { name := "justifyGaps", fn := fun _ => fun
  | [d1, d2] => { results := [.lit (.bool true)], args := [d1, d2] }
  | _ => none }
def justifyGapsRow : OpenClaim := { program := "yteodhhepbnehhaagreatdoor", sum := "d433be2b3923e206a8efe5583b6aae974b9ee04f197adc920a34edf9fe75e006", func := "pentaglot/pentaglotlaw50.JustifyGaps", spec := "justifyGaps", inPlace := ["internal/bytealg.IndexByteString", "internal/bytealg.IndexString", "internal/abi.NoEscape", "internal/bytealg.MakeNoZero", "internal/bytealg.CountString"], unfollowed := true, recurses := true, named := ["unicode/utf8.first", "unicode/utf8.acceptRanges", "internal/bytealg.MaxLen"], apart := false, laid := [("unicode/utf8.acceptRanges", laid_unicode_utf8_acceptRanges), ("unicode/utf8.first", laid_unicode_utf8_first)] }
def JustifyGapsSaid : Prop := justifyGapsRow.holds Tryz.pinned (OpenSpec.ofChange justifyGapsSpec)

/-- ITS FALSE NEIGHBOUR: 'it returns false'. Refute it at one input. -/
def justifyGapsWrong : ChangeSpec := { name := "justifyGaps", fn := fun _ => fun
  | [d1, d2] => { results := [.lit (.bool false)], args := [d1, d2] }
  | _ => none }
def JustifyGapsWrongFalsely : Prop := justifyGapsRow.holds Tryz.pinned (OpenSpec.ofChange justifyGapsWrong)

/-- 'pentaglotlaw50.JustifyParagraphs': WHATEVER THE INPUT: true; the input reads as it did. -/
def justifyParagraphsSpec : ChangeSpec := { name := "justifyParagraphs", fn := fun _ => fun
  | [d1, d2, d3] => { results := [.lit (.bool true)], args := [d1, d2, d3] }
  | _ => none }
def justifyParagraphsRow : OpenClaim := { program := "yteodhhepbnehhaagreatdoor", sum := "d433be2b3923e206a8efe5583b6aae974b9ee04f197adc920a34edf9fe75e006", func := "pentaglot/pentaglotlaw50.JustifyParagraphs", spec := "justifyParagraphs", inPlace := ["internal/bytealg.IndexByteString", "internal/bytealg.IndexString", "internal/abi.NoEscape", "internal/bytealg.MakeNoZero", "internal/bytealg.CountString"], unfollowed := true, recurses := true, named := ["unicode/utf8.first", "unicode/utf8.acceptRanges", "internal/bytealg.MaxLen"], apart := false, laid := [("unicode/utf8.acceptRanges", laid_unicode_utf8_acceptRanges), ("unicode/utf8.first", laid_unicode_utf8_first)] }
def JustifyParagraphsSaid : Prop := justifyParagraphsRow.holds Tryz.pinned (OpenSpec.ofChange justifyParagraphsSpec)

/-- ITS FALSE NEIGHBOUR: 'it returns false'. Refute it at one input. -/
def justifyParagraphsWrong : ChangeSpec := { name := "justifyParagraphs", fn := fun _ => fun
  | [d1, d2, d3] => { results := [.lit (.bool false)], args := [d1, d2, d3] }
  | _ => none }
def JustifyParagraphsWrongFalsely : Prop := justifyParagraphsRow.holds Tryz.pinned (OpenSpec.ofChange justifyParagraphsWrong)

/-- 'pentaglotlaw50.JustifyOptimum': WHATEVER THE INPUT: true; the input reads as it did. -/
def justifyOptimumSpec : ChangeSpec := { name := "justifyOptimum", fn := fun _ => fun
  | [d1, d2, d3] => { results := [.lit (.bool true)], args := [d1, d2, d3] }
  | _ => none }
def justifyOptimumRow : OpenClaim := { program := "yteodhhepbnehhaagreatdoor", sum := "d433be2b3923e206a8efe5583b6aae974b9ee04f197adc920a34edf9fe75e006", func := "pentaglot/pentaglotlaw50.JustifyOptimum", spec := "justifyOptimum", inPlace := ["internal/bytealg.IndexByteString", "internal/bytealg.IndexString", "internal/abi.NoEscape", "internal/bytealg.MakeNoZero", "internal/bytealg.CountString"], unfollowed := true, recurses := true, named := ["unicode/utf8.first", "unicode/utf8.acceptRanges", "internal/bytealg.MaxLen"], apart := false, laid := [("unicode/utf8.acceptRanges", laid_unicode_utf8_acceptRanges), ("unicode/utf8.first", laid_unicode_utf8_first)] }
def JustifyOptimumSaid : Prop := justifyOptimumRow.holds Tryz.pinned (OpenSpec.ofChange justifyOptimumSpec)

/-- ITS FALSE NEIGHBOUR: 'it returns false'. Refute it at one input. -/
def justifyOptimumWrong : ChangeSpec := { name := "justifyOptimum", fn := fun _ => fun
  | [d1, d2, d3] => { results := [.lit (.bool false)], args := [d1, d2, d3] }
  | _ => none }
def JustifyOptimumWrongFalsely : Prop := justifyOptimumRow.holds Tryz.pinned (OpenSpec.ofChange justifyOptimumWrong)

/-- 'pentaglotlaw50.JustifyPages': WHATEVER THE INPUT: true; the input reads as it did. -/
def justifyPagesSpec : ChangeSpec := { name := "justifyPages", fn := fun _ => fun
  | [d1, d2, d3, d4] => { results := [.lit (.bool true)], args := [d1, d2, d3, d4] }
  | _ => none }
def justifyPagesRow : OpenClaim := { program := "yteodhhepbnehhaagreatdoor", sum := "d433be2b3923e206a8efe5583b6aae974b9ee04f197adc920a34edf9fe75e006", func := "pentaglot/pentaglotlaw50.JustifyPages", spec := "justifyPages", inPlace := ["internal/bytealg.IndexByteString", "internal/bytealg.IndexString", "internal/abi.NoEscape", "internal/bytealg.MakeNoZero", "internal/bytealg.CountString"], unfollowed := true, recurses := true, named := ["unicode/utf8.first", "unicode/utf8.acceptRanges", "internal/bytealg.MaxLen"], apart := false, laid := [("unicode/utf8.acceptRanges", laid_unicode_utf8_acceptRanges), ("unicode/utf8.first", laid_unicode_utf8_first)] }
def JustifyPagesSaid : Prop := justifyPagesRow.holds Tryz.pinned (OpenSpec.ofChange justifyPagesSpec)

/-- ITS FALSE NEIGHBOUR: 'it returns false'. Refute it at one input. -/
def justifyPagesWrong : ChangeSpec := { name := "justifyPages", fn := fun _ => fun
  | [d1, d2, d3, d4] => { results := [.lit (.bool false)], args := [d1, d2, d3, d4] }
  | _ => none }
def JustifyPagesWrongFalsely : Prop := justifyPagesRow.holds Tryz.pinned (OpenSpec.ofChange justifyPagesWrong)

/-- 'pentaglotlaw50.JustifyWidths': WHATEVER THE INPUT: true; the input reads as it did. -/
def justifyWidthsSpec : ChangeSpec := { name := "justifyWidths", fn := fun _ => fun
  | [d1, d2, d3, d4] => { results := [.lit (.bool true)], args := [d1, d2, d3, d4] }
  | _ => none }
def justifyWidthsRow : OpenClaim := { program := "yteodhhepbnehhaagreatdoor", sum := "d433be2b3923e206a8efe5583b6aae974b9ee04f197adc920a34edf9fe75e006", func := "pentaglot/pentaglotlaw50.JustifyWidths", spec := "justifyWidths", inPlace := ["internal/bytealg.IndexByteString", "internal/bytealg.IndexString", "internal/abi.NoEscape", "internal/bytealg.MakeNoZero", "internal/bytealg.CountString"], unfollowed := true, recurses := true, named := ["unicode/utf8.first", "unicode/utf8.acceptRanges", "internal/bytealg.MaxLen"], apart := false, laid := [("unicode/utf8.acceptRanges", laid_unicode_utf8_acceptRanges), ("unicode/utf8.first", laid_unicode_utf8_first)] }
def JustifyWidthsSaid : Prop := justifyWidthsRow.holds Tryz.pinned (OpenSpec.ofChange justifyWidthsSpec)

/-- ITS FALSE NEIGHBOUR: 'it returns false'. Refute it at one input. -/
def justifyWidthsWrong : ChangeSpec := { name := "justifyWidths", fn := fun _ => fun
  | [d1, d2, d3, d4] => { results := [.lit (.bool false)], args := [d1, d2, d3, d4] }
  | _ => none }
def JustifyWidthsWrongFalsely : Prop := justifyWidthsRow.holds Tryz.pinned (OpenSpec.ofChange justifyWidthsWrong)

/-- 'pentaglotlaw50.JustifyReturns': WHATEVER THE INPUT: true; the input reads as it did. -/
def justifyReturnsSpec : ChangeSpec := { name := "justifyReturns", fn := fun _ => fun
  | [d1, d2, d3, d4] => { results := [.lit (.bool true)], args := [d1, d2, d3, d4] }
  | _ => none }
def justifyReturnsRow : OpenClaim := { program := "yteodhhepbnehhaagreatdoor", sum := "d433be2b3923e206a8efe5583b6aae974b9ee04f197adc920a34edf9fe75e006", func := "pentaglot/pentaglotlaw50.JustifyReturns", spec := "justifyReturns", inPlace := ["internal/bytealg.IndexByteString", "internal/bytealg.IndexString", "internal/abi.NoEscape", "internal/bytealg.MakeNoZero", "internal/bytealg.CountString"], unfollowed := true, recurses := true, named := ["unicode/utf8.first", "unicode/utf8.acceptRanges", "internal/bytealg.MaxLen"], apart := false, laid := [("unicode/utf8.acceptRanges", laid_unicode_utf8_acceptRanges), ("unicode/utf8.first", laid_unicode_utf8_first)] }
def JustifyReturnsSaid : Prop := justifyReturnsRow.holds Tryz.pinned (OpenSpec.ofChange justifyReturnsSpec)

/-- ITS FALSE NEIGHBOUR: 'it returns false'. Refute it at one input. -/
def justifyReturnsWrong : ChangeSpec := { name := "justifyReturns", fn := fun _ => fun
  | [d1, d2, d3, d4] => { results := [.lit (.bool false)], args := [d1, d2, d3, d4] }
  | _ => none }
def JustifyReturnsWrongFalsely : Prop := justifyReturnsRow.holds Tryz.pinned (OpenSpec.ofChange justifyReturnsWrong)

/-- 'pentaglotlaw50.JustifyPlain': WHATEVER THE INPUT: true; the input reads as it did. -/
def justifyPlainSpec : ChangeSpec := { name := "justifyPlain", fn := fun _ => fun
  | [d1, d2] => { results := [.lit (.bool true)], args := [d1, d2] }
  | _ => none }
def justifyPlainRow : OpenClaim := { program := "yteodhhepbnehhaagreatdoor", sum := "d433be2b3923e206a8efe5583b6aae974b9ee04f197adc920a34edf9fe75e006", func := "pentaglot/pentaglotlaw50.JustifyPlain", spec := "justifyPlain", inPlace := ["internal/bytealg.IndexByteString", "internal/bytealg.IndexString", "internal/abi.NoEscape", "internal/bytealg.MakeNoZero", "internal/bytealg.CountString"], unfollowed := true, recurses := true, named := ["unicode/utf8.first", "unicode/utf8.acceptRanges", "internal/bytealg.MaxLen"], apart := false, laid := [("unicode/utf8.acceptRanges", laid_unicode_utf8_acceptRanges), ("unicode/utf8.first", laid_unicode_utf8_first)] }
def JustifyPlainSaid : Prop := justifyPlainRow.holds Tryz.pinned (OpenSpec.ofChange justifyPlainSpec)

/-- ITS FALSE NEIGHBOUR: 'it returns false'. Refute it at one input. -/
def justifyPlainWrong : ChangeSpec := { name := "justifyPlain", fn := fun _ => fun
  | [d1, d2] => { results := [.lit (.bool false)], args := [d1, d2] }
  | _ => none }
def JustifyPlainWrongFalsely : Prop := justifyPlainRow.holds Tryz.pinned (OpenSpec.ofChange justifyPlainWrong)

/-- 'pentaglotlaw50.JustifySheets': WHATEVER THE INPUT: true; the input reads as it did. -/
def justifySheetsSpec : ChangeSpec := { name := "justifySheets", fn := fun _ => fun
  | [d1, d2] => { results := [.lit (.bool true)], args := [d1, d2] }
  | _ => none }
def justifySheetsRow : OpenClaim := { program := "yteodhhepbnehhaagreatdoor", sum := "d433be2b3923e206a8efe5583b6aae974b9ee04f197adc920a34edf9fe75e006", func := "pentaglot/pentaglotlaw50.JustifySheets", spec := "justifySheets", inPlace := ["internal/bytealg.IndexByteString", "internal/bytealg.IndexString", "internal/abi.NoEscape", "internal/bytealg.MakeNoZero", "internal/bytealg.CountString"], unfollowed := true, recurses := true, named := ["unicode/utf8.first", "unicode/utf8.acceptRanges", "internal/bytealg.MaxLen"], apart := false, laid := [("unicode/utf8.acceptRanges", laid_unicode_utf8_acceptRanges), ("unicode/utf8.first", laid_unicode_utf8_first)] }
def JustifySheetsSaid : Prop := justifySheetsRow.holds Tryz.pinned (OpenSpec.ofChange justifySheetsSpec)

/-- ITS FALSE NEIGHBOUR: 'it returns false'. Refute it at one input. -/
def justifySheetsWrong : ChangeSpec := { name := "justifySheets", fn := fun _ => fun
  | [d1, d2] => { results := [.lit (.bool false)], args := [d1, d2] }
  | _ => none }
def JustifySheetsWrongFalsely : Prop := justifySheetsRow.holds Tryz.pinned (OpenSpec.ofChange justifySheetsWrong)

/- THE SECOND FORM. 'bulk': how many values and letters a reading holds, each counted each time it is reached (what is shared counts as often as it is met; a slice's spare places count too). A statement '..UptoSaid' is the law's where the arguments, and the package variables that the reading takes, are together of bulk at most 1048576: NARROWER than '..Said'. Prove '..Said' where nothing that the law and all that it calls make is longer than what came in: it says more and counts as full. Else prove '..UptoSaid'. A law counts once. -/
mutual
def uptoBulk {H : Type} : DataW H → Nat
  | .lit (.string bytes) => bytes.length + 1
  | .lit _ => 1
  | .nil => 1
  | .ptr d => uptoBulk d + 1
  | .slice elems spare => uptoBulkAll elems + uptoBulkAll spare + 1
  | .agg parts => uptoBulkAll parts + 1
  | .iface _ d => uptoBulk d + 1
  | .map entries => uptoBulkEntries entries + 1
  | .held _ => 1
def uptoBulkAll {H : Type} : List (DataW H) → Nat
  | [] => 0
  | d :: r => uptoBulk d + uptoBulkAll r
def uptoBulkEntries {H : Type} : List (Lit × DataW H) → Nat
  | [] => 0
  | x :: r => uptoBulkEntry x + uptoBulkEntries r
def uptoBulkEntry {H : Type} : Lit × DataW H → Nat
  | (.string bytes, d) => bytes.length + uptoBulk d + 1
  | (_, d) => uptoBulk d + 1
 end
def uptoSmall : (H : Type) → List (DataW H) → Bool := fun _ ds => decide (uptoBulkAll ds ≤ 1048576)
def OpenSpec.upto (s : _root_.Go.ChangeSpec) : _root_.Go.OpenSpec := { _root_.Go.OpenSpec.ofChange s with cond := some uptoSmall }

/-- 'pentaglotlaw50.JustifySpreads', WHERE WHAT IT READS IS OF BULK AT MOST 1048576: true; the input reads as it did. -/
def justifySpreadsUptoRow : OpenClaim := { program := "yteodhhepbnehhaagreatdoor", sum := "d433be2b3923e206a8efe5583b6aae974b9ee04f197adc920a34edf9fe75e006", func := "pentaglot/pentaglotlaw50.JustifySpreads", spec := "justifySpreads", inPlace := ["internal/bytealg.IndexByteString", "internal/bytealg.IndexString", "internal/abi.NoEscape", "internal/bytealg.MakeNoZero", "internal/bytealg.CountString"], unfollowed := true, recurses := true, named := ["unicode/utf8.first", "unicode/utf8.acceptRanges", "internal/bytealg.MaxLen"], apart := false, laid := [("unicode/utf8.acceptRanges", laid_unicode_utf8_acceptRanges), ("unicode/utf8.first", laid_unicode_utf8_first)], narrowed := true }
def JustifySpreadsUptoSaid : Prop := justifySpreadsUptoRow.holds Tryz.pinned (OpenSpec.upto justifySpreadsSpec)

/-- 'pentaglotlaw50.JustifyGaps', WHERE WHAT IT READS IS OF BULK AT MOST 1048576: true; the input reads as it did. -/
def justifyGapsUptoRow : OpenClaim := { program := "yteodhhepbnehhaagreatdoor", sum := "d433be2b3923e206a8efe5583b6aae974b9ee04f197adc920a34edf9fe75e006", func := "pentaglot/pentaglotlaw50.JustifyGaps", spec := "justifyGaps", inPlace := ["internal/bytealg.IndexByteString", "internal/bytealg.IndexString", "internal/abi.NoEscape", "internal/bytealg.MakeNoZero", "internal/bytealg.CountString"], unfollowed := true, recurses := true, named := ["unicode/utf8.first", "unicode/utf8.acceptRanges", "internal/bytealg.MaxLen"], apart := false, laid := [("unicode/utf8.acceptRanges", laid_unicode_utf8_acceptRanges), ("unicode/utf8.first", laid_unicode_utf8_first)], narrowed := true }
def JustifyGapsUptoSaid : Prop := justifyGapsUptoRow.holds Tryz.pinned (OpenSpec.upto justifyGapsSpec)

/-- 'pentaglotlaw50.JustifyParagraphs', WHERE WHAT IT READS IS OF BULK AT MOST 1048576: true; the input reads as it did. -/
def justifyParagraphsUptoRow : OpenClaim := { program := "yteodhhepbnehhaagreatdoor", sum := "d433be2b3923e206a8efe5583b6aae974b9ee04f197adc920a34edf9fe75e006", func := "pentaglot/pentaglotlaw50.JustifyParagraphs", spec := "justifyParagraphs", inPlace := ["internal/bytealg.IndexByteString", "internal/bytealg.IndexString", "internal/abi.NoEscape", "internal/bytealg.MakeNoZero", "internal/bytealg.CountString"], unfollowed := true, recurses := true, named := ["unicode/utf8.first", "unicode/utf8.acceptRanges", "internal/bytealg.MaxLen"], apart := false, laid := [("unicode/utf8.acceptRanges", laid_unicode_utf8_acceptRanges), ("unicode/utf8.first", laid_unicode_utf8_first)], narrowed := true }
def JustifyParagraphsUptoSaid : Prop := justifyParagraphsUptoRow.holds Tryz.pinned (OpenSpec.upto justifyParagraphsSpec)

/-- 'pentaglotlaw50.JustifyOptimum', WHERE WHAT IT READS IS OF BULK AT MOST 1048576: true; the input reads as it did. -/
def justifyOptimumUptoRow : OpenClaim := { program := "yteodhhepbnehhaagreatdoor", sum := "d433be2b3923e206a8efe5583b6aae974b9ee04f197adc920a34edf9fe75e006", func := "pentaglot/pentaglotlaw50.JustifyOptimum", spec := "justifyOptimum", inPlace := ["internal/bytealg.IndexByteString", "internal/bytealg.IndexString", "internal/abi.NoEscape", "internal/bytealg.MakeNoZero", "internal/bytealg.CountString"], unfollowed := true, recurses := true, named := ["unicode/utf8.first", "unicode/utf8.acceptRanges", "internal/bytealg.MaxLen"], apart := false, laid := [("unicode/utf8.acceptRanges", laid_unicode_utf8_acceptRanges), ("unicode/utf8.first", laid_unicode_utf8_first)], narrowed := true }
def JustifyOptimumUptoSaid : Prop := justifyOptimumUptoRow.holds Tryz.pinned (OpenSpec.upto justifyOptimumSpec)

/-- 'pentaglotlaw50.JustifyPages', WHERE WHAT IT READS IS OF BULK AT MOST 1048576: true; the input reads as it did. -/
def justifyPagesUptoRow : OpenClaim := { program := "yteodhhepbnehhaagreatdoor", sum := "d433be2b3923e206a8efe5583b6aae974b9ee04f197adc920a34edf9fe75e006", func := "pentaglot/pentaglotlaw50.JustifyPages", spec := "justifyPages", inPlace := ["internal/bytealg.IndexByteString", "internal/bytealg.IndexString", "internal/abi.NoEscape", "internal/bytealg.MakeNoZero", "internal/bytealg.CountString"], unfollowed := true, recurses := true, named := ["unicode/utf8.first", "unicode/utf8.acceptRanges", "internal/bytealg.MaxLen"], apart := false, laid := [("unicode/utf8.acceptRanges", laid_unicode_utf8_acceptRanges), ("unicode/utf8.first", laid_unicode_utf8_first)], narrowed := true }
def JustifyPagesUptoSaid : Prop := justifyPagesUptoRow.holds Tryz.pinned (OpenSpec.upto justifyPagesSpec)

/-- 'pentaglotlaw50.JustifyWidths', WHERE WHAT IT READS IS OF BULK AT MOST 1048576: true; the input reads as it did. -/
def justifyWidthsUptoRow : OpenClaim := { program := "yteodhhepbnehhaagreatdoor", sum := "d433be2b3923e206a8efe5583b6aae974b9ee04f197adc920a34edf9fe75e006", func := "pentaglot/pentaglotlaw50.JustifyWidths", spec := "justifyWidths", inPlace := ["internal/bytealg.IndexByteString", "internal/bytealg.IndexString", "internal/abi.NoEscape", "internal/bytealg.MakeNoZero", "internal/bytealg.CountString"], unfollowed := true, recurses := true, named := ["unicode/utf8.first", "unicode/utf8.acceptRanges", "internal/bytealg.MaxLen"], apart := false, laid := [("unicode/utf8.acceptRanges", laid_unicode_utf8_acceptRanges), ("unicode/utf8.first", laid_unicode_utf8_first)], narrowed := true }
def JustifyWidthsUptoSaid : Prop := justifyWidthsUptoRow.holds Tryz.pinned (OpenSpec.upto justifyWidthsSpec)

/-- 'pentaglotlaw50.JustifyReturns', WHERE WHAT IT READS IS OF BULK AT MOST 1048576: true; the input reads as it did. -/
def justifyReturnsUptoRow : OpenClaim := { program := "yteodhhepbnehhaagreatdoor", sum := "d433be2b3923e206a8efe5583b6aae974b9ee04f197adc920a34edf9fe75e006", func := "pentaglot/pentaglotlaw50.JustifyReturns", spec := "justifyReturns", inPlace := ["internal/bytealg.IndexByteString", "internal/bytealg.IndexString", "internal/abi.NoEscape", "internal/bytealg.MakeNoZero", "internal/bytealg.CountString"], unfollowed := true, recurses := true, named := ["unicode/utf8.first", "unicode/utf8.acceptRanges", "internal/bytealg.MaxLen"], apart := false, laid := [("unicode/utf8.acceptRanges", laid_unicode_utf8_acceptRanges), ("unicode/utf8.first", laid_unicode_utf8_first)], narrowed := true }
def JustifyReturnsUptoSaid : Prop := justifyReturnsUptoRow.holds Tryz.pinned (OpenSpec.upto justifyReturnsSpec)

/-- 'pentaglotlaw50.JustifyPlain', WHERE WHAT IT READS IS OF BULK AT MOST 1048576: true; the input reads as it did. -/
def justifyPlainUptoRow : OpenClaim := { program := "yteodhhepbnehhaagreatdoor", sum := "d433be2b3923e206a8efe5583b6aae974b9ee04f197adc920a34edf9fe75e006", func := "pentaglot/pentaglotlaw50.JustifyPlain", spec := "justifyPlain", inPlace := ["internal/bytealg.IndexByteString", "internal/bytealg.IndexString", "internal/abi.NoEscape", "internal/bytealg.MakeNoZero", "internal/bytealg.CountString"], unfollowed := true, recurses := true, named := ["unicode/utf8.first", "unicode/utf8.acceptRanges", "internal/bytealg.MaxLen"], apart := false, laid := [("unicode/utf8.acceptRanges", laid_unicode_utf8_acceptRanges), ("unicode/utf8.first", laid_unicode_utf8_first)], narrowed := true }
def JustifyPlainUptoSaid : Prop := justifyPlainUptoRow.holds Tryz.pinned (OpenSpec.upto justifyPlainSpec)

/-- 'pentaglotlaw50.JustifySheets', WHERE WHAT IT READS IS OF BULK AT MOST 1048576: true; the input reads as it did. -/
def justifySheetsUptoRow : OpenClaim := { program := "yteodhhepbnehhaagreatdoor", sum := "d433be2b3923e206a8efe5583b6aae974b9ee04f197adc920a34edf9fe75e006", func := "pentaglot/pentaglotlaw50.JustifySheets", spec := "justifySheets", inPlace := ["internal/bytealg.IndexByteString", "internal/bytealg.IndexString", "internal/abi.NoEscape", "internal/bytealg.MakeNoZero", "internal/bytealg.CountString"], unfollowed := true, recurses := true, named := ["unicode/utf8.first", "unicode/utf8.acceptRanges", "internal/bytealg.MaxLen"], apart := false, laid := [("unicode/utf8.acceptRanges", laid_unicode_utf8_acceptRanges), ("unicode/utf8.first", laid_unicode_utf8_first)], narrowed := true }
def JustifySheetsUptoSaid : Prop := justifySheetsUptoRow.holds Tryz.pinned (OpenSpec.upto justifySheetsSpec)

end Rows
end Go.Proofs.YteodhhepbnehhaaGreatDoor
