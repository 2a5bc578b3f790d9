/-
  NARROWER THAN 'FOR EVERY INPUT', by the rows' own cells (each row's printed sentence says how): PatternAcceptors: laid · PatternAgrees: laid · PatternRuns: laid · PatternMinimal: laid · PatternDiffers: laid · PatternFirst: laid · PatternEquivalence: laid · PatternDivides: laid · PatternMatches: laid.
  DERIVED. THE GIVEN ROWS OF THIS SEAT. 9 by the template 'for every input the law returns true; each argument reads behind the call as it read before'; 0 by the template 'total and deterministic' (their statements: YtkajkpdilinmgaaDoorTotals.lean).
  GIVEN WITH THE SEED: the statements are not yours to turn. If you find one false, say at which input.
  Laid BY PROGRAM, IN A SANDBOX (cutbox-rows.mjs): the forced cells as the released guide's own fill.sh prints them over the translation 2eb9737f5d3d5a72… (all of the seat's roots in one cut). By AI agents, Wed Nov 11 2026. No macro, syntax, notation, axiom, sorry.
-/
import Derived.Test.YtkajkpdilinmgaaDoorChecked
import GoSem.PinnedTables
import GoSem.Claim
import GoSem.ClaimJoined
import GoSem.ClaimMapViews
import Derived.JoinedTies
import Derived.KernelRfl
namespace Go.Proofs.YtkajkpdilinmgaaDoor
/- THE CELL 'sum', in the pinned program and in every row, IS THE sha256 OF THE DUMP (.gsa) THAT YtkajkpdilinmgaaDoorProg.lean LOADS. Nothing in Lean hashes anything: it is a label: what it is worth is what the hold of that sum in a sandbox is worth. -/
noncomputable def Tryd.pinned : Pinned := { name := "ytkajkpdilinmgaadoor", sum := "2eb9737f5d3d5a724e5cff75e6398d0f53649518bc117a37640b2512b3187e53", checked := Tryd.checked }
namespace Rows
def none {H : Type} : Left H := { results := [], args := [] }

/- WHAT THE LISTED PACKAGE-LEVEL VARIABLES READ AS WHEN THE CALL BEGINS. Each datum BY PROGRAM (the guide's laid-datum.mjs) off the statement by which the dump's own 'gosem.cut.vars' lays the variable. In a bare row this is a premise. The card (YtkajkpdilinmgaaDoorCards.lean) ties it to the program's text. -/
def laid_unicode_utf8_acceptRanges {H : Type} : DataW H := .agg [.agg [.lit (.int .u8 128), .lit (.int .u8 191)], .agg [.lit (.int .u8 160), .lit (.int .u8 191)], .agg [.lit (.int .u8 128), .lit (.int .u8 159)], .agg [.lit (.int .u8 144), .lit (.int .u8 191)], .agg [.lit (.int .u8 128), .lit (.int .u8 143)], .agg [.lit (.int .u8 0), .lit (.int .u8 0)], .agg [.lit (.int .u8 0), .lit (.int .u8 0)], .agg [.lit (.int .u8 0), .lit (.int .u8 0)], .agg [.lit (.int .u8 0), .lit (.int .u8 0)], .agg [.lit (.int .u8 0), .lit (.int .u8 0)], .agg [.lit (.int .u8 0), .lit (.int .u8 0)], .agg [.lit (.int .u8 0), .lit (.int .u8 0)], .agg [.lit (.int .u8 0), .lit (.int .u8 0)], .agg [.lit (.int .u8 0), .lit (.int .u8 0)], .agg [.lit (.int .u8 0), .lit (.int .u8 0)], .agg [.lit (.int .u8 0), .lit (.int .u8 0)]]
/-- One of Go's own tables, pinned by name: the form's constant. -/
def laid_unicode_utf8_first : DataW Unit := Go.Pinned.utf8First

/-- 'pentaglotlaw06.PatternAcceptors': WHATEVER THE INPUT: true; the input reads as it did. -/
def patternAcceptorsSpec : ChangeSpec := { name := "patternAcceptors", fn := fun _ => fun
  | [d1, d2] => { results := [.lit (.bool true)], args := [d1, d2] }
  | _ => none }
def patternAcceptorsRow : OpenClaim := { program := "ytkajkpdilinmgaadoor", sum := "2eb9737f5d3d5a724e5cff75e6398d0f53649518bc117a37640b2512b3187e53", func := "pentaglot/pentaglotlaw06.PatternAcceptors", spec := "patternAcceptors", unfollowed := true, recurses := true, named := ["unicode/utf8.first", "unicode/utf8.acceptRanges"], plainKeys := false, apart := false, laid := [("unicode/utf8.acceptRanges", laid_unicode_utf8_acceptRanges), ("unicode/utf8.first", laid_unicode_utf8_first)] }
def PatternAcceptorsSaid : Prop := patternAcceptorsRow.holds Tryd.pinned (OpenSpec.ofChange patternAcceptorsSpec)

/-- ITS FALSE NEIGHBOUR: 'it returns false'. Refute it at one input. -/
def patternAcceptorsWrong : ChangeSpec := { name := "patternAcceptors", fn := fun _ => fun
  | [d1, d2] => { results := [.lit (.bool false)], args := [d1, d2] }
  | _ => none }
def PatternAcceptorsWrongFalsely : Prop := patternAcceptorsRow.holds Tryd.pinned (OpenSpec.ofChange patternAcceptorsWrong)

/-- 'pentaglotlaw06.PatternAgrees': WHATEVER THE INPUT: true; the input reads as it did. -/
def patternAgreesSpec : ChangeSpec := { name := "patternAgrees", fn := fun _ => fun
  | [d1, d2, d3] => { results := [.lit (.bool true)], args := [d1, d2, d3] }
  | _ => none }
def patternAgreesRow : OpenClaim := { program := "ytkajkpdilinmgaadoor", sum := "2eb9737f5d3d5a724e5cff75e6398d0f53649518bc117a37640b2512b3187e53", func := "pentaglot/pentaglotlaw06.PatternAgrees", spec := "patternAgrees", unfollowed := true, recurses := true, named := ["unicode/utf8.first", "unicode/utf8.acceptRanges"], plainKeys := false, apart := false, laid := [("unicode/utf8.acceptRanges", laid_unicode_utf8_acceptRanges), ("unicode/utf8.first", laid_unicode_utf8_first)] }
def PatternAgreesSaid : Prop := patternAgreesRow.holds Tryd.pinned (OpenSpec.ofChange patternAgreesSpec)

/-- ITS FALSE NEIGHBOUR: 'it returns false'. Refute it at one input. -/
def patternAgreesWrong : ChangeSpec := { name := "patternAgrees", fn := fun _ => fun
  | [d1, d2, d3] => { results := [.lit (.bool false)], args := [d1, d2, d3] }
  | _ => none }
def PatternAgreesWrongFalsely : Prop := patternAgreesRow.holds Tryd.pinned (OpenSpec.ofChange patternAgreesWrong)

/-- 'pentaglotlaw06.PatternRuns': WHATEVER THE INPUT: true; the input reads as it did. -/
def patternRunsSpec : ChangeSpec := { name := "patternRuns", fn := fun _ => fun
  | [d1, d2, d3] => { results := [.lit (.bool true)], args := [d1, d2, d3] }
  | _ => none }
def patternRunsRow : OpenClaim := { program := "ytkajkpdilinmgaadoor", sum := "2eb9737f5d3d5a724e5cff75e6398d0f53649518bc117a37640b2512b3187e53", func := "pentaglot/pentaglotlaw06.PatternRuns", spec := "patternRuns", unfollowed := true, recurses := true, named := ["unicode/utf8.first", "unicode/utf8.acceptRanges"], plainKeys := false, apart := false, laid := [("unicode/utf8.acceptRanges", laid_unicode_utf8_acceptRanges), ("unicode/utf8.first", laid_unicode_utf8_first)] }
def PatternRunsSaid : Prop := patternRunsRow.holds Tryd.pinned (OpenSpec.ofChange patternRunsSpec)

/-- ITS FALSE NEIGHBOUR: 'it returns false'. Refute it at one input. -/
def patternRunsWrong : ChangeSpec := { name := "patternRuns", fn := fun _ => fun
  | [d1, d2, d3] => { results := [.lit (.bool false)], args := [d1, d2, d3] }
  | _ => none }
def PatternRunsWrongFalsely : Prop := patternRunsRow.holds Tryd.pinned (OpenSpec.ofChange patternRunsWrong)

/-- 'pentaglotlaw06.PatternMinimal': WHATEVER THE INPUT: true; the input reads as it did. -/
def patternMinimalSpec : ChangeSpec := { name := "patternMinimal", fn := fun _ => fun
  | [d] => { results := [.lit (.bool true)], args := [d] }
  | _ => none }
def patternMinimalRow : OpenClaim := { program := "ytkajkpdilinmgaadoor", sum := "2eb9737f5d3d5a724e5cff75e6398d0f53649518bc117a37640b2512b3187e53", func := "pentaglot/pentaglotlaw06.PatternMinimal", spec := "patternMinimal", unfollowed := true, recurses := true, named := ["unicode/utf8.first", "unicode/utf8.acceptRanges"], plainKeys := false, apart := false, laid := [("unicode/utf8.acceptRanges", laid_unicode_utf8_acceptRanges), ("unicode/utf8.first", laid_unicode_utf8_first)] }
def PatternMinimalSaid : Prop := patternMinimalRow.holds Tryd.pinned (OpenSpec.ofChange patternMinimalSpec)

/-- ITS FALSE NEIGHBOUR: 'it returns false'. Refute it at one input. -/
def patternMinimalWrong : ChangeSpec := { name := "patternMinimal", fn := fun _ => fun
  | [d] => { results := [.lit (.bool false)], args := [d] }
  | _ => none }
def PatternMinimalWrongFalsely : Prop := patternMinimalRow.holds Tryd.pinned (OpenSpec.ofChange patternMinimalWrong)

/-- 'pentaglotlaw06.PatternDiffers': WHATEVER THE INPUT: true; the input reads as it did. -/
def patternDiffersSpec : ChangeSpec := { name := "patternDiffers", fn := fun _ => fun
  | [d1, d2, d3] => { results := [.lit (.bool true)], args := [d1, d2, d3] }
  | _ => none }
def patternDiffersRow : OpenClaim := { program := "ytkajkpdilinmgaadoor", sum := "2eb9737f5d3d5a724e5cff75e6398d0f53649518bc117a37640b2512b3187e53", func := "pentaglot/pentaglotlaw06.PatternDiffers", spec := "patternDiffers", unfollowed := true, recurses := true, named := ["unicode/utf8.first", "unicode/utf8.acceptRanges"], plainKeys := false, apart := false, laid := [("unicode/utf8.acceptRanges", laid_unicode_utf8_acceptRanges), ("unicode/utf8.first", laid_unicode_utf8_first)] }
def PatternDiffersSaid : Prop := patternDiffersRow.holds Tryd.pinned (OpenSpec.ofChange patternDiffersSpec)

/-- ITS FALSE NEIGHBOUR: 'it returns false'. Refute it at one input. -/
def patternDiffersWrong : ChangeSpec := { name := "patternDiffers", fn := fun _ => fun
  | [d1, d2, d3] => { results := [.lit (.bool false)], args := [d1, d2, d3] }
  | _ => none }
def PatternDiffersWrongFalsely : Prop := patternDiffersRow.holds Tryd.pinned (OpenSpec.ofChange patternDiffersWrong)

/-- 'pentaglotlaw06.PatternFirst': WHATEVER THE INPUT: true; the input reads as it did. -/
def patternFirstSpec : ChangeSpec := { name := "patternFirst", fn := fun _ => fun
  | [d1, d2, d3, d4] => { results := [.lit (.bool true)], args := [d1, d2, d3, d4] }
  | _ => none }
def patternFirstRow : OpenClaim := { program := "ytkajkpdilinmgaadoor", sum := "2eb9737f5d3d5a724e5cff75e6398d0f53649518bc117a37640b2512b3187e53", func := "pentaglot/pentaglotlaw06.PatternFirst", spec := "patternFirst", unfollowed := true, recurses := true, named := ["unicode/utf8.first", "unicode/utf8.acceptRanges"], plainKeys := false, apart := false, laid := [("unicode/utf8.acceptRanges", laid_unicode_utf8_acceptRanges), ("unicode/utf8.first", laid_unicode_utf8_first)] }
def PatternFirstSaid : Prop := patternFirstRow.holds Tryd.pinned (OpenSpec.ofChange patternFirstSpec)

/-- ITS FALSE NEIGHBOUR: 'it returns false'. Refute it at one input. -/
def patternFirstWrong : ChangeSpec := { name := "patternFirst", fn := fun _ => fun
  | [d1, d2, d3, d4] => { results := [.lit (.bool false)], args := [d1, d2, d3, d4] }
  | _ => none }
def PatternFirstWrongFalsely : Prop := patternFirstRow.holds Tryd.pinned (OpenSpec.ofChange patternFirstWrong)

/-- 'pentaglotlaw06.PatternEquivalence': WHATEVER THE INPUT: true; the input reads as it did. -/
def patternEquivalenceSpec : ChangeSpec := { name := "patternEquivalence", fn := fun _ => fun
  | [d1, d2, d3] => { results := [.lit (.bool true)], args := [d1, d2, d3] }
  | _ => none }
def patternEquivalenceRow : OpenClaim := { program := "ytkajkpdilinmgaadoor", sum := "2eb9737f5d3d5a724e5cff75e6398d0f53649518bc117a37640b2512b3187e53", func := "pentaglot/pentaglotlaw06.PatternEquivalence", spec := "patternEquivalence", unfollowed := true, recurses := true, named := ["unicode/utf8.first", "unicode/utf8.acceptRanges"], plainKeys := false, apart := false, laid := [("unicode/utf8.acceptRanges", laid_unicode_utf8_acceptRanges), ("unicode/utf8.first", laid_unicode_utf8_first)] }
def PatternEquivalenceSaid : Prop := patternEquivalenceRow.holds Tryd.pinned (OpenSpec.ofChange patternEquivalenceSpec)

/-- ITS FALSE NEIGHBOUR: 'it returns false'. Refute it at one input. -/
def patternEquivalenceWrong : ChangeSpec := { name := "patternEquivalence", fn := fun _ => fun
  | [d1, d2, d3] => { results := [.lit (.bool false)], args := [d1, d2, d3] }
  | _ => none }
def PatternEquivalenceWrongFalsely : Prop := patternEquivalenceRow.holds Tryd.pinned (OpenSpec.ofChange patternEquivalenceWrong)

/-- 'pentaglotlaw06.PatternDivides': WHATEVER THE INPUT: true; the input reads as it did. -/
def patternDividesSpec : ChangeSpec := { name := "patternDivides", fn := fun _ => fun
  | [d1, d2, d3, d4] => { results := [.lit (.bool true)], args := [d1, d2, d3, d4] }
  | _ => none }
def patternDividesRow : OpenClaim := { program := "ytkajkpdilinmgaadoor", sum := "2eb9737f5d3d5a724e5cff75e6398d0f53649518bc117a37640b2512b3187e53", func := "pentaglot/pentaglotlaw06.PatternDivides", spec := "patternDivides", unfollowed := true, recurses := true, named := ["unicode/utf8.first", "unicode/utf8.acceptRanges"], plainKeys := false, apart := false, laid := [("unicode/utf8.acceptRanges", laid_unicode_utf8_acceptRanges), ("unicode/utf8.first", laid_unicode_utf8_first)] }
def PatternDividesSaid : Prop := patternDividesRow.holds Tryd.pinned (OpenSpec.ofChange patternDividesSpec)

/-- ITS FALSE NEIGHBOUR: 'it returns false'. Refute it at one input. -/
def patternDividesWrong : ChangeSpec := { name := "patternDivides", fn := fun _ => fun
  | [d1, d2, d3, d4] => { results := [.lit (.bool false)], args := [d1, d2, d3, d4] }
  | _ => none }
def PatternDividesWrongFalsely : Prop := patternDividesRow.holds Tryd.pinned (OpenSpec.ofChange patternDividesWrong)

/-- 'pentaglotlaw06.PatternMatches': WHATEVER THE INPUT: true; the input reads as it did. -/
def patternMatchesSpec : ChangeSpec := { name := "patternMatches", fn := fun _ => fun
  | [d1, d2, d3] => { results := [.lit (.bool true)], args := [d1, d2, d3] }
  | _ => none }
def patternMatchesRow : OpenClaim := { program := "ytkajkpdilinmgaadoor", sum := "2eb9737f5d3d5a724e5cff75e6398d0f53649518bc117a37640b2512b3187e53", func := "pentaglot/pentaglotlaw06.PatternMatches", spec := "patternMatches", unfollowed := true, recurses := true, named := ["unicode/utf8.first", "unicode/utf8.acceptRanges"], plainKeys := false, apart := false, laid := [("unicode/utf8.acceptRanges", laid_unicode_utf8_acceptRanges), ("unicode/utf8.first", laid_unicode_utf8_first)] }
def PatternMatchesSaid : Prop := patternMatchesRow.holds Tryd.pinned (OpenSpec.ofChange patternMatchesSpec)

/-- ITS FALSE NEIGHBOUR: 'it returns false'. Refute it at one input. -/
def patternMatchesWrong : ChangeSpec := { name := "patternMatches", fn := fun _ => fun
  | [d1, d2, d3] => { results := [.lit (.bool false)], args := [d1, d2, d3] }
  | _ => none }
def PatternMatchesWrongFalsely : Prop := patternMatchesRow.holds Tryd.pinned (OpenSpec.ofChange patternMatchesWrong)

/- THE SECOND FORM. 'bulk': how many values and letters a reading holds, each counted each time it is reached (what is shared counts as often as it is met; a slice's spare places count too). A statement '..UptoSaid' is the law's where the arguments, and the package variables that the reading takes, are together of bulk at most 1048576: NARROWER than '..Said'. Prove '..Said' where nothing that the law and all that it calls make is longer than what came in: it says more and counts as full. Else prove '..UptoSaid'. A law counts once. -/
mutual
def uptoBulk {H : Type} : DataW H → Nat
  | .lit (.string bytes) => bytes.length + 1
  | .lit _ => 1
  | .nil => 1
  | .ptr d => uptoBulk d + 1
  | .slice elems spare => uptoBulkAll elems + uptoBulkAll spare + 1
  | .agg parts => uptoBulkAll parts + 1
  | .iface _ d => uptoBulk d + 1
  | .map entries => uptoBulkEntries entries + 1
  | .held _ => 1
def uptoBulkAll {H : Type} : List (DataW H) → Nat
  | [] => 0
  | d :: r => uptoBulk d + uptoBulkAll r
def uptoBulkEntries {H : Type} : List (Lit × DataW H) → Nat
  | [] => 0
  | x :: r => uptoBulkEntry x + uptoBulkEntries r
def uptoBulkEntry {H : Type} : Lit × DataW H → Nat
  | (.string bytes, d) => bytes.length + uptoBulk d + 1
  | (_, d) => uptoBulk d + 1
 end
def uptoSmall : (H : Type) → List (DataW H) → Bool := fun _ ds => decide (uptoBulkAll ds ≤ 1048576)
def OpenSpec.upto (s : _root_.Go.ChangeSpec) : _root_.Go.OpenSpec := { _root_.Go.OpenSpec.ofChange s with cond := some uptoSmall }

/-- 'pentaglotlaw06.PatternAcceptors', WHERE WHAT IT READS IS OF BULK AT MOST 1048576: true; the input reads as it did. -/
def patternAcceptorsUptoRow : OpenClaim := { program := "ytkajkpdilinmgaadoor", sum := "2eb9737f5d3d5a724e5cff75e6398d0f53649518bc117a37640b2512b3187e53", func := "pentaglot/pentaglotlaw06.PatternAcceptors", spec := "patternAcceptors", unfollowed := true, recurses := true, named := ["unicode/utf8.first", "unicode/utf8.acceptRanges"], plainKeys := false, apart := false, laid := [("unicode/utf8.acceptRanges", laid_unicode_utf8_acceptRanges), ("unicode/utf8.first", laid_unicode_utf8_first)], narrowed := true }
def PatternAcceptorsUptoSaid : Prop := patternAcceptorsUptoRow.holds Tryd.pinned (OpenSpec.upto patternAcceptorsSpec)

/-- 'pentaglotlaw06.PatternAgrees', WHERE WHAT IT READS IS OF BULK AT MOST 1048576: true; the input reads as it did. -/
def patternAgreesUptoRow : OpenClaim := { program := "ytkajkpdilinmgaadoor", sum := "2eb9737f5d3d5a724e5cff75e6398d0f53649518bc117a37640b2512b3187e53", func := "pentaglot/pentaglotlaw06.PatternAgrees", spec := "patternAgrees", unfollowed := true, recurses := true, named := ["unicode/utf8.first", "unicode/utf8.acceptRanges"], plainKeys := false, apart := false, laid := [("unicode/utf8.acceptRanges", laid_unicode_utf8_acceptRanges), ("unicode/utf8.first", laid_unicode_utf8_first)], narrowed := true }
def PatternAgreesUptoSaid : Prop := patternAgreesUptoRow.holds Tryd.pinned (OpenSpec.upto patternAgreesSpec)

/-- 'pentaglotlaw06.PatternRuns', WHERE WHAT IT READS IS OF BULK AT MOST 1048576: true; the input reads as it did. -/
def patternRunsUptoRow : OpenClaim := { program := "ytkajkpdilinmgaadoor", sum := "2eb9737f5d3d5a724e5cff75e6398d0f53649518bc117a37640b2512b3187e53", func := "pentaglot/pentaglotlaw06.PatternRuns", spec := "patternRuns", unfollowed := true, recurses := true, named := ["unicode/utf8.first", "unicode/utf8.acceptRanges"], plainKeys := false, apart := false, laid := [("unicode/utf8.acceptRanges", laid_unicode_utf8_acceptRanges), ("unicode/utf8.first", laid_unicode_utf8_first)], narrowed := true }
def PatternRunsUptoSaid : Prop := patternRunsUptoRow.holds Tryd.pinned (OpenSpec.upto patternRunsSpec)

/-- 'pentaglotlaw06.PatternMinimal', WHERE WHAT IT READS IS OF BULK AT MOST 1048576: true; the input reads as it did. -/
def patternMinimalUptoRow : OpenClaim := { program := "ytkajkpdilinmgaadoor", sum := "2eb9737f5d3d5a724e5cff75e6398d0f53649518bc117a37640b2512b3187e53", func := "pentaglot/pentaglotlaw06.PatternMinimal", spec := "patternMinimal", unfollowed := true, recurses := true, named := ["unicode/utf8.first", "unicode/utf8.acceptRanges"], plainKeys := false, apart := false, laid := [("unicode/utf8.acceptRanges", laid_unicode_utf8_acceptRanges), ("unicode/utf8.first", laid_unicode_utf8_first)], narrowed := true }
def PatternMinimalUptoSaid : Prop := patternMinimalUptoRow.holds Tryd.pinned (OpenSpec.upto patternMinimalSpec)

/-- 'pentaglotlaw06.PatternDiffers', WHERE WHAT IT READS IS OF BULK AT MOST 1048576: true; the input reads as it did. -/
def patternDiffersUptoRow : OpenClaim := { program := "ytkajkpdilinmgaadoor", sum := "2eb9737f5d3d5a724e5cff75e6398d0f53649518bc117a37640b2512b3187e53", func := "pentaglot/pentaglotlaw06.PatternDiffers", spec := "patternDiffers", unfollowed := true, recurses := true, named := ["unicode/utf8.first", "unicode/utf8.acceptRanges"], plainKeys := false, apart := false, laid := [("unicode/utf8.acceptRanges", laid_unicode_utf8_acceptRanges), ("unicode/utf8.first", laid_unicode_utf8_first)], narrowed := true }
def PatternDiffersUptoSaid : Prop := patternDiffersUptoRow.holds Tryd.pinned (OpenSpec.upto patternDiffersSpec)

/-- 'pentaglotlaw06.PatternFirst', WHERE WHAT IT READS IS OF BULK AT MOST 1048576: true; the input reads as it did. -/
def patternFirstUptoRow : OpenClaim := { program := "ytkajkpdilinmgaadoor", sum := "2eb9737f5d3d5a724e5cff75e6398d0f53649518bc117a37640b2512b3187e53", func := "pentaglot/pentaglotlaw06.PatternFirst", spec := "patternFirst", unfollowed := true, recurses := true, named := ["unicode/utf8.first", "unicode/utf8.acceptRanges"], plainKeys := false, apart := false, laid := [("unicode/utf8.acceptRanges", laid_unicode_utf8_acceptRanges), ("unicode/utf8.first", laid_unicode_utf8_first)], narrowed := true }
def PatternFirstUptoSaid : Prop := patternFirstUptoRow.holds Tryd.pinned (OpenSpec.upto patternFirstSpec)

/-- 'pentaglotlaw06.PatternEquivalence', WHERE WHAT IT READS IS OF BULK AT MOST 1048576: true; the input reads as it did. -/
def patternEquivalenceUptoRow : OpenClaim := { program := "ytkajkpdilinmgaadoor", sum := "2eb9737f5d3d5a724e5cff75e6398d0f53649518bc117a37640b2512b3187e53", func := "pentaglot/pentaglotlaw06.PatternEquivalence", spec := "patternEquivalence", unfollowed := true, recurses := true, named := ["unicode/utf8.first", "unicode/utf8.acceptRanges"], plainKeys := false, apart := false, laid := [("unicode/utf8.acceptRanges", laid_unicode_utf8_acceptRanges), ("unicode/utf8.first", laid_unicode_utf8_first)], narrowed := true }
def PatternEquivalenceUptoSaid : Prop := patternEquivalenceUptoRow.holds Tryd.pinned (OpenSpec.upto patternEquivalenceSpec)

/-- 'pentaglotlaw06.PatternDivides', WHERE WHAT IT READS IS OF BULK AT MOST 1048576: true; the input reads as it did. -/
def patternDividesUptoRow : OpenClaim := { program := "ytkajkpdilinmgaadoor", sum := "2eb9737f5d3d5a724e5cff75e6398d0f53649518bc117a37640b2512b3187e53", func := "pentaglot/pentaglotlaw06.PatternDivides", spec := "patternDivides", unfollowed := true, recurses := true, named := ["unicode/utf8.first", "unicode/utf8.acceptRanges"], plainKeys := false, apart := false, laid := [("unicode/utf8.acceptRanges", laid_unicode_utf8_acceptRanges), ("unicode/utf8.first", laid_unicode_utf8_first)], narrowed := true }
def PatternDividesUptoSaid : Prop := patternDividesUptoRow.holds Tryd.pinned (OpenSpec.upto patternDividesSpec)

/-- 'pentaglotlaw06.PatternMatches', WHERE WHAT IT READS IS OF BULK AT MOST 1048576: true; the input reads as it did. -/
def patternMatchesUptoRow : OpenClaim := { program := "ytkajkpdilinmgaadoor", sum := "2eb9737f5d3d5a724e5cff75e6398d0f53649518bc117a37640b2512b3187e53", func := "pentaglot/pentaglotlaw06.PatternMatches", spec := "patternMatches", unfollowed := true, recurses := true, named := ["unicode/utf8.first", "unicode/utf8.acceptRanges"], plainKeys := false, apart := false, laid := [("unicode/utf8.acceptRanges", laid_unicode_utf8_acceptRanges), ("unicode/utf8.first", laid_unicode_utf8_first)], narrowed := true }
def PatternMatchesUptoSaid : Prop := patternMatchesUptoRow.holds Tryd.pinned (OpenSpec.upto patternMatchesSpec)

end Rows
end Go.Proofs.YtkajkpdilinmgaaDoor
