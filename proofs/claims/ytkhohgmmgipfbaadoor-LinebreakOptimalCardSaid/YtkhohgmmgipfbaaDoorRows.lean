/-
  NARROWER THAN 'FOR EVERY INPUT', by the rows' own cells (each row's printed sentence says how): LinebreakLines: laid · LinebreakGreedy: laid · LinebreakPenalty: laid · LinebreakWider: laid · LinebreakSmallest: laid · LinebreakText: laid · LinebreakCost: laid · LinebreakDivides: laid · LinebreakOptimal: laid.
  DERIVED. THE GIVEN ROWS OF THIS SEAT. 9 by the template 'for every input the law returns true; each argument reads behind the call as it read before'; 0 by the template 'total and deterministic' (their statements: YtkhohgmmgipfbaaDoorTotals.lean).
  GIVEN WITH THE SEED: the statements are not yours to turn. If you find one false, say at which input.
  Laid BY PROGRAM, IN A SANDBOX (cutbox-rows.mjs): the forced cells as the released guide's own fill.sh prints them over the translation acb957e23d50fcff… (all of the seat's roots in one cut). By AI agents, Wed Nov 11 2026. No macro, syntax, notation, axiom, sorry.
-/
import Derived.Test.YtkhohgmmgipfbaaDoorChecked
import GoSem.PinnedTables
import GoSem.Claim
import GoSem.ClaimJoined
import GoSem.ClaimMapViews
import Derived.JoinedTies
import Derived.KernelRfl
namespace Go.Proofs.YtkhohgmmgipfbaaDoor
/- THE CELL 'sum', in the pinned program and in every row, IS THE sha256 OF THE DUMP (.gsa) THAT YtkhohgmmgipfbaaDoorProg.lean LOADS. Nothing in Lean hashes anything: it is a label: what it is worth is what the hold of that sum in a sandbox is worth. -/
noncomputable def Tryd.pinned : Pinned := { name := "ytkhohgmmgipfbaadoor", sum := "acb957e23d50fcffe153b33574ba59378308d77fa98e74aa489cff00f2608f90", checked := Tryd.checked }
namespace Rows
def none {H : Type} : Left H := { results := [], args := [] }

/- WHAT THE LISTED PACKAGE-LEVEL VARIABLES READ AS WHEN THE CALL BEGINS. Each datum BY PROGRAM (the guide's laid-datum.mjs) off the statement by which the dump's own 'gosem.cut.vars' lays the variable. In a bare row this is a premise. The card (YtkhohgmmgipfbaaDoorCards.lean) ties it to the program's text. -/
def laid_unicode_utf8_acceptRanges {H : Type} : DataW H := .agg [.agg [.lit (.int .u8 128), .lit (.int .u8 191)], .agg [.lit (.int .u8 160), .lit (.int .u8 191)], .agg [.lit (.int .u8 128), .lit (.int .u8 159)], .agg [.lit (.int .u8 144), .lit (.int .u8 191)], .agg [.lit (.int .u8 128), .lit (.int .u8 143)], .agg [.lit (.int .u8 0), .lit (.int .u8 0)], .agg [.lit (.int .u8 0), .lit (.int .u8 0)], .agg [.lit (.int .u8 0), .lit (.int .u8 0)], .agg [.lit (.int .u8 0), .lit (.int .u8 0)], .agg [.lit (.int .u8 0), .lit (.int .u8 0)], .agg [.lit (.int .u8 0), .lit (.int .u8 0)], .agg [.lit (.int .u8 0), .lit (.int .u8 0)], .agg [.lit (.int .u8 0), .lit (.int .u8 0)], .agg [.lit (.int .u8 0), .lit (.int .u8 0)], .agg [.lit (.int .u8 0), .lit (.int .u8 0)], .agg [.lit (.int .u8 0), .lit (.int .u8 0)]]
/-- One of Go's own tables, pinned by name: the form's constant. -/
def laid_unicode_utf8_first : DataW Unit := Go.Pinned.utf8First

/-- 'pentaglotlaw44.LinebreakLines': WHATEVER THE INPUT: true; the input reads as it did. -/
def linebreakLinesSpec : ChangeSpec := { name := "linebreakLines", fn := fun _ => fun
  | [d1, d2, d3] => { results := [.lit (.bool true)], args := [d1, d2, d3] }
  | _ => none }
def linebreakLinesRow : OpenClaim := { program := "ytkhohgmmgipfbaadoor", sum := "acb957e23d50fcffe153b33574ba59378308d77fa98e74aa489cff00f2608f90", func := "pentaglot/pentaglotlaw44.LinebreakLines", spec := "linebreakLines", inPlace := ["internal/bytealg.IndexByteString", "internal/bytealg.IndexString", "internal/abi.NoEscape"], unfollowed := true, recurses := true, named := ["unicode/utf8.first", "unicode/utf8.acceptRanges", "internal/bytealg.MaxLen"], apart := false, laid := [("unicode/utf8.acceptRanges", laid_unicode_utf8_acceptRanges), ("unicode/utf8.first", laid_unicode_utf8_first)] }
def LinebreakLinesSaid : Prop := linebreakLinesRow.holds Tryd.pinned (OpenSpec.ofChange linebreakLinesSpec)

/-- ITS FALSE NEIGHBOUR: 'it returns false'. Refute it at one input. -/
def linebreakLinesWrong : ChangeSpec := { name := "linebreakLines", fn := fun _ => fun
  | [d1, d2, d3] => { results := [.lit (.bool false)], args := [d1, d2, d3] }
  | _ => none }
def LinebreakLinesWrongFalsely : Prop := linebreakLinesRow.holds Tryd.pinned (OpenSpec.ofChange linebreakLinesWrong)

/-- 'pentaglotlaw44.LinebreakGreedy': WHATEVER THE INPUT: true; the input reads as it did. -/
def linebreakGreedySpec : ChangeSpec := { name := "linebreakGreedy", fn := fun _ => fun
  | [d1, d2] => { results := [.lit (.bool true)], args := [d1, d2] }
  | _ => none }
def linebreakGreedyRow : OpenClaim := { program := "ytkhohgmmgipfbaadoor", sum := "acb957e23d50fcffe153b33574ba59378308d77fa98e74aa489cff00f2608f90", func := "pentaglot/pentaglotlaw44.LinebreakGreedy", spec := "linebreakGreedy", inPlace := ["internal/bytealg.IndexByteString", "internal/bytealg.IndexString", "internal/abi.NoEscape"], unfollowed := true, recurses := true, named := ["unicode/utf8.first", "unicode/utf8.acceptRanges", "internal/bytealg.MaxLen"], apart := false, laid := [("unicode/utf8.acceptRanges", laid_unicode_utf8_acceptRanges), ("unicode/utf8.first", laid_unicode_utf8_first)] }
def LinebreakGreedySaid : Prop := linebreakGreedyRow.holds Tryd.pinned (OpenSpec.ofChange linebreakGreedySpec)

/-- ITS FALSE NEIGHBOUR: 'it returns false'. Refute it at one input. -/
def linebreakGreedyWrong : ChangeSpec := { name := "linebreakGreedy", fn := fun _ => fun
  | [d1, d2] => { results := [.lit (.bool false)], args := [d1, d2] }
  | _ => none }
def LinebreakGreedyWrongFalsely : Prop := linebreakGreedyRow.holds Tryd.pinned (OpenSpec.ofChange linebreakGreedyWrong)

/-- 'pentaglotlaw44.LinebreakPenalty': WHATEVER THE INPUT: true; the input reads as it did. -/
def linebreakPenaltySpec : ChangeSpec := { name := "linebreakPenalty", fn := fun _ => fun
  | [d1, d2, d3, d4] => { results := [.lit (.bool true)], args := [d1, d2, d3, d4] }
  | _ => none }
def linebreakPenaltyRow : OpenClaim := { program := "ytkhohgmmgipfbaadoor", sum := "acb957e23d50fcffe153b33574ba59378308d77fa98e74aa489cff00f2608f90", func := "pentaglot/pentaglotlaw44.LinebreakPenalty", spec := "linebreakPenalty", inPlace := ["internal/bytealg.IndexByteString", "internal/bytealg.IndexString", "internal/abi.NoEscape"], unfollowed := true, recurses := true, named := ["unicode/utf8.first", "unicode/utf8.acceptRanges", "internal/bytealg.MaxLen"], apart := false, laid := [("unicode/utf8.acceptRanges", laid_unicode_utf8_acceptRanges), ("unicode/utf8.first", laid_unicode_utf8_first)] }
def LinebreakPenaltySaid : Prop := linebreakPenaltyRow.holds Tryd.pinned (OpenSpec.ofChange linebreakPenaltySpec)

/-- ITS FALSE NEIGHBOUR: 'it returns false'. Refute it at one input. -/
def linebreakPenaltyWrong : ChangeSpec := { name := "linebreakPenalty", fn := fun _ => fun
  | [d1, d2, d3, d4] => { results := [.lit (.bool false)], args := [d1, d2, d3, d4] }
  | _ => none }
def LinebreakPenaltyWrongFalsely : Prop := linebreakPenaltyRow.holds Tryd.pinned (OpenSpec.ofChange linebreakPenaltyWrong)

/-- 'pentaglotlaw44.LinebreakWider': WHATEVER THE INPUT: true; the input reads as it did. -/
def linebreakWiderSpec : ChangeSpec := { name := "linebreakWider", fn := fun _ => fun
  | [d1, d2, d3] => { results := [.lit (.bool true)], args := [d1, d2, d3] }
  | _ => none }
def linebreakWiderRow : OpenClaim := { program := "ytkhohgmmgipfbaadoor", sum := "acb957e23d50fcffe153b33574ba59378308d77fa98e74aa489cff00f2608f90", func := "pentaglot/pentaglotlaw44.LinebreakWider", spec := "linebreakWider", inPlace := ["internal/bytealg.IndexByteString", "internal/bytealg.IndexString", "internal/abi.NoEscape"], unfollowed := true, recurses := true, named := ["unicode/utf8.first", "unicode/utf8.acceptRanges", "internal/bytealg.MaxLen"], apart := false, laid := [("unicode/utf8.acceptRanges", laid_unicode_utf8_acceptRanges), ("unicode/utf8.first", laid_unicode_utf8_first)] }
def LinebreakWiderSaid : Prop := linebreakWiderRow.holds Tryd.pinned (OpenSpec.ofChange linebreakWiderSpec)

/-- ITS FALSE NEIGHBOUR: 'it returns false'. Refute it at one input. -/
def linebreakWiderWrong : ChangeSpec := { name := "linebreakWider", fn := fun _ => fun
  | [d1, d2, d3] => { results := [.lit (.bool false)], args := [d1, d2, d3] }
  | _ => none }
def LinebreakWiderWrongFalsely : Prop := linebreakWiderRow.holds Tryd.pinned (OpenSpec.ofChange linebreakWiderWrong)

/-- 'pentaglotlaw44.LinebreakSmallest': WHATEVER THE INPUT: true; the input reads as it did. -/
def linebreakSmallestSpec : ChangeSpec := { name := "linebreakSmallest", fn := fun _ => fun
  | [d1, d2] => { results := [.lit (.bool true)], args := [d1, d2] }
  | _ => none }
def linebreakSmallestRow : OpenClaim := { program := "ytkhohgmmgipfbaadoor", sum := "acb957e23d50fcffe153b33574ba59378308d77fa98e74aa489cff00f2608f90", func := "pentaglot/pentaglotlaw44.LinebreakSmallest", spec := "linebreakSmallest", inPlace := ["internal/bytealg.IndexByteString", "internal/bytealg.IndexString", "internal/abi.NoEscape"], unfollowed := true, recurses := true, named := ["unicode/utf8.first", "unicode/utf8.acceptRanges", "internal/bytealg.MaxLen"], apart := false, laid := [("unicode/utf8.acceptRanges", laid_unicode_utf8_acceptRanges), ("unicode/utf8.first", laid_unicode_utf8_first)] }
def LinebreakSmallestSaid : Prop := linebreakSmallestRow.holds Tryd.pinned (OpenSpec.ofChange linebreakSmallestSpec)

/-- ITS FALSE NEIGHBOUR: 'it returns false'. Refute it at one input. -/
def linebreakSmallestWrong : ChangeSpec := { name := "linebreakSmallest", fn := fun _ => fun
  | [d1, d2] => { results := [.lit (.bool false)], args := [d1, d2] }
  | _ => none }
def LinebreakSmallestWrongFalsely : Prop := linebreakSmallestRow.holds Tryd.pinned (OpenSpec.ofChange linebreakSmallestWrong)

/-- 'pentaglotlaw44.LinebreakText': WHATEVER THE INPUT: true; the input reads as it did. -/
def linebreakTextSpec : ChangeSpec := { name := "linebreakText", fn := fun _ => fun
  | [d] => { results := [.lit (.bool true)], args := [d] }
  | _ => none }
def linebreakTextRow : OpenClaim := { program := "ytkhohgmmgipfbaadoor", sum := "acb957e23d50fcffe153b33574ba59378308d77fa98e74aa489cff00f2608f90", func := "pentaglot/pentaglotlaw44.LinebreakText", spec := "linebreakText", inPlace := ["internal/bytealg.IndexByteString", "internal/bytealg.IndexString", "internal/abi.NoEscape"], unfollowed := true, recurses := true, named := ["unicode/utf8.first", "unicode/utf8.acceptRanges", "internal/bytealg.MaxLen"], apart := false, laid := [("unicode/utf8.acceptRanges", laid_unicode_utf8_acceptRanges), ("unicode/utf8.first", laid_unicode_utf8_first)] }
def LinebreakTextSaid : Prop := linebreakTextRow.holds Tryd.pinned (OpenSpec.ofChange linebreakTextSpec)

/-- ITS FALSE NEIGHBOUR: 'it returns false'. Refute it at one input. -/
def linebreakTextWrong : ChangeSpec := { name := "linebreakText", fn := fun _ => fun
  | [d] => { results := [.lit (.bool false)], args := [d] }
  | _ => none }
def LinebreakTextWrongFalsely : Prop := linebreakTextRow.holds Tryd.pinned (OpenSpec.ofChange linebreakTextWrong)

/-- 'pentaglotlaw44.LinebreakCost': WHATEVER THE INPUT: true; the input reads as it did. -/
def linebreakCostSpec : ChangeSpec := { name := "linebreakCost", fn := fun _ => fun
  | [d1, d2, d3] => { results := [.lit (.bool true)], args := [d1, d2, d3] }
  | _ => none }
def linebreakCostRow : OpenClaim := { program := "ytkhohgmmgipfbaadoor", sum := "acb957e23d50fcffe153b33574ba59378308d77fa98e74aa489cff00f2608f90", func := "pentaglot/pentaglotlaw44.LinebreakCost", spec := "linebreakCost", inPlace := ["internal/bytealg.IndexByteString", "internal/bytealg.IndexString", "internal/abi.NoEscape"], unfollowed := true, recurses := true, named := ["unicode/utf8.first", "unicode/utf8.acceptRanges", "internal/bytealg.MaxLen"], apart := false, laid := [("unicode/utf8.acceptRanges", laid_unicode_utf8_acceptRanges), ("unicode/utf8.first", laid_unicode_utf8_first)] }
def LinebreakCostSaid : Prop := linebreakCostRow.holds Tryd.pinned (OpenSpec.ofChange linebreakCostSpec)

/-- ITS FALSE NEIGHBOUR: 'it returns false'. Refute it at one input. -/
def linebreakCostWrong : ChangeSpec := { name := "linebreakCost", fn := fun _ => fun
  | [d1, d2, d3] => { results := [.lit (.bool false)], args := [d1, d2, d3] }
  | _ => none }
def LinebreakCostWrongFalsely : Prop := linebreakCostRow.holds Tryd.pinned (OpenSpec.ofChange linebreakCostWrong)

/-- 'pentaglotlaw44.LinebreakDivides': WHATEVER THE INPUT: true; the input reads as it did. -/
def linebreakDividesSpec : ChangeSpec := { name := "linebreakDivides", fn := fun _ => fun
  | [d1, d2, d3] => { results := [.lit (.bool true)], args := [d1, d2, d3] }
  | _ => none }
def linebreakDividesRow : OpenClaim := { program := "ytkhohgmmgipfbaadoor", sum := "acb957e23d50fcffe153b33574ba59378308d77fa98e74aa489cff00f2608f90", func := "pentaglot/pentaglotlaw44.LinebreakDivides", spec := "linebreakDivides", inPlace := ["internal/bytealg.IndexByteString", "internal/bytealg.IndexString", "internal/abi.NoEscape"], unfollowed := true, recurses := true, named := ["unicode/utf8.first", "unicode/utf8.acceptRanges", "internal/bytealg.MaxLen"], apart := false, laid := [("unicode/utf8.acceptRanges", laid_unicode_utf8_acceptRanges), ("unicode/utf8.first", laid_unicode_utf8_first)] }
def LinebreakDividesSaid : Prop := linebreakDividesRow.holds Tryd.pinned (OpenSpec.ofChange linebreakDividesSpec)

/-- ITS FALSE NEIGHBOUR: 'it returns false'. Refute it at one input. -/
def linebreakDividesWrong : ChangeSpec := { name := "linebreakDivides", fn := fun _ => fun
  | [d1, d2, d3] => { results := [.lit (.bool false)], args := [d1, d2, d3] }
  | _ => none }
def LinebreakDividesWrongFalsely : Prop := linebreakDividesRow.holds Tryd.pinned (OpenSpec.ofChange linebreakDividesWrong)

/-- 'pentaglotlaw44.LinebreakOptimal': WHATEVER THE INPUT: true; the input reads as it did. -/
def linebreakOptimalSpec : ChangeSpec := { name := "linebreakOptimal", fn := fun _ => fun
  | [d1, d2, d3, d4] => { results := [.lit (.bool true)], args := [d1, d2, d3, d4] }
  | _ => none }
def linebreakOptimalRow : OpenClaim := { program := "ytkhohgmmgipfbaadoor", sum := "acb957e23d50fcffe153b33574ba59378308d77fa98e74aa489cff00f2608f90", func := "pentaglot/pentaglotlaw44.LinebreakOptimal", spec := "linebreakOptimal", inPlace := ["internal/bytealg.IndexByteString", "internal/bytealg.IndexString", "internal/abi.NoEscape"], unfollowed := true, recurses := true, named := ["unicode/utf8.first", "unicode/utf8.acceptRanges", "internal/bytealg.MaxLen"], apart := false, laid := [("unicode/utf8.acceptRanges", laid_unicode_utf8_acceptRanges), ("unicode/utf8.first", laid_unicode_utf8_first)] }
def LinebreakOptimalSaid : Prop := linebreakOptimalRow.holds Tryd.pinned (OpenSpec.ofChange linebreakOptimalSpec)

/-- ITS FALSE NEIGHBOUR: 'it returns false'. Refute it at one input. -/
def linebreakOptimalWrong : ChangeSpec := { name := "linebreakOptimal", fn := fun _ => fun
  | [d1, d2, d3, d4] => { results := [.lit (.bool false)], args := [d1, d2, d3, d4] }
  | _ => none }
def LinebreakOptimalWrongFalsely : Prop := linebreakOptimalRow.holds Tryd.pinned (OpenSpec.ofChange linebreakOptimalWrong)

/- THE SECOND FORM. 'bulk': how many values and letters a reading holds, each counted each time it is reached (what is shared counts as often as it is met; a slice's spare places count too). A statement '..UptoSaid' is the law's where the arguments, and the package variables that the reading takes, are together of bulk at most 1048576: NARROWER than '..Said'. Prove '..Said' where nothing that the law and all that it calls make is longer than what came in: it says more and counts as full. Else prove '..UptoSaid'. A law counts once. -/
mutual
def uptoBulk {H : Type} : DataW H → Nat
  | .lit (.string bytes) => bytes.length + 1
  | .lit _ => 1
  | .nil => 1
  | .ptr d => uptoBulk d + 1
  | .slice elems spare => uptoBulkAll elems + uptoBulkAll spare + 1
  | .agg parts => uptoBulkAll parts + 1
  | .iface _ d => uptoBulk d + 1
  | .map entries => uptoBulkEntries entries + 1
  | .held _ => 1
def uptoBulkAll {H : Type} : List (DataW H) → Nat
  | [] => 0
  | d :: r => uptoBulk d + uptoBulkAll r
def uptoBulkEntries {H : Type} : List (Lit × DataW H) → Nat
  | [] => 0
  | x :: r => uptoBulkEntry x + uptoBulkEntries r
def uptoBulkEntry {H : Type} : Lit × DataW H → Nat
  | (.string bytes, d) => bytes.length + uptoBulk d + 1
  | (_, d) => uptoBulk d + 1
 end
def uptoSmall : (H : Type) → List (DataW H) → Bool := fun _ ds => decide (uptoBulkAll ds ≤ 1048576)
def OpenSpec.upto (s : _root_.Go.ChangeSpec) : _root_.Go.OpenSpec := { _root_.Go.OpenSpec.ofChange s with cond := some uptoSmall }

/-- 'pentaglotlaw44.LinebreakLines', WHERE WHAT IT READS IS OF BULK AT MOST 1048576: true; the input reads as it did. -/
def linebreakLinesUptoRow : OpenClaim := { program := "ytkhohgmmgipfbaadoor", sum := "acb957e23d50fcffe153b33574ba59378308d77fa98e74aa489cff00f2608f90", func := "pentaglot/pentaglotlaw44.LinebreakLines", spec := "linebreakLines", inPlace := ["internal/bytealg.IndexByteString", "internal/bytealg.IndexString", "internal/abi.NoEscape"], unfollowed := true, recurses := true, named := ["unicode/utf8.first", "unicode/utf8.acceptRanges", "internal/bytealg.MaxLen"], apart := false, laid := [("unicode/utf8.acceptRanges", laid_unicode_utf8_acceptRanges), ("unicode/utf8.first", laid_unicode_utf8_first)], narrowed := true }
def LinebreakLinesUptoSaid : Prop := linebreakLinesUptoRow.holds Tryd.pinned (OpenSpec.upto linebreakLinesSpec)

/-- 'pentaglotlaw44.LinebreakGreedy', WHERE WHAT IT READS IS OF BULK AT MOST 1048576: true; the input reads as it did. -/
def linebreakGreedyUptoRow : OpenClaim := { program := "ytkhohgmmgipfbaadoor", sum := "acb957e23d50fcffe153b33574ba59378308d77fa98e74aa489cff00f2608f90", func := "pentaglot/pentaglotlaw44.LinebreakGreedy", spec := "linebreakGreedy", inPlace := ["internal/bytealg.IndexByteString", "internal/bytealg.IndexString", "internal/abi.NoEscape"], unfollowed := true, recurses := true, named := ["unicode/utf8.first", "unicode/utf8.acceptRanges", "internal/bytealg.MaxLen"], apart := false, laid := [("unicode/utf8.acceptRanges", laid_unicode_utf8_acceptRanges), ("unicode/utf8.first", laid_unicode_utf8_first)], narrowed := true }
def LinebreakGreedyUptoSaid : Prop := linebreakGreedyUptoRow.holds Tryd.pinned (OpenSpec.upto linebreakGreedySpec)

/-- 'pentaglotlaw44.LinebreakPenalty', WHERE WHAT IT READS IS OF BULK AT MOST 1048576: true; the input reads as it did. -/
def linebreakPenaltyUptoRow : OpenClaim := { program := "ytkhohgmmgipfbaadoor", sum := "acb957e23d50fcffe153b33574ba59378308d77fa98e74aa489cff00f2608f90", func := "pentaglot/pentaglotlaw44.LinebreakPenalty", spec := "linebreakPenalty", inPlace := ["internal/bytealg.IndexByteString", "internal/bytealg.IndexString", "internal/abi.NoEscape"], unfollowed := true, recurses := true, named := ["unicode/utf8.first", "unicode/utf8.acceptRanges", "internal/bytealg.MaxLen"], apart := false, laid := [("unicode/utf8.acceptRanges", laid_unicode_utf8_acceptRanges), ("unicode/utf8.first", laid_unicode_utf8_first)], narrowed := true }
def LinebreakPenaltyUptoSaid : Prop := linebreakPenaltyUptoRow.holds Tryd.pinned (OpenSpec.upto linebreakPenaltySpec)

/-- 'pentaglotlaw44.LinebreakWider', WHERE WHAT IT READS IS OF BULK AT MOST 1048576: true; the input reads as it did. -/
def linebreakWiderUptoRow : OpenClaim := { program := "ytkhohgmmgipfbaadoor", sum := "acb957e23d50fcffe153b33574ba59378308d77fa98e74aa489cff00f2608f90", func := "pentaglot/pentaglotlaw44.LinebreakWider", spec := "linebreakWider", inPlace := ["internal/bytealg.IndexByteString", "internal/bytealg.IndexString", "internal/abi.NoEscape"], unfollowed := true, recurses := true, named := ["unicode/utf8.first", "unicode/utf8.acceptRanges", "internal/bytealg.MaxLen"], apart := false, laid := [("unicode/utf8.acceptRanges", laid_unicode_utf8_acceptRanges), ("unicode/utf8.first", laid_unicode_utf8_first)], narrowed := true }
def LinebreakWiderUptoSaid : Prop := linebreakWiderUptoRow.holds Tryd.pinned (OpenSpec.upto linebreakWiderSpec)

/-- 'pentaglotlaw44.LinebreakSmallest', WHERE WHAT IT READS IS OF BULK AT MOST 1048576: true; the input reads as it did. -/
def linebreakSmallestUptoRow : OpenClaim := { program := "ytkhohgmmgipfbaadoor", sum := "acb957e23d50fcffe153b33574ba59378308d77fa98e74aa489cff00f2608f90", func := "pentaglot/pentaglotlaw44.LinebreakSmallest", spec := "linebreakSmallest", inPlace := ["internal/bytealg.IndexByteString", "internal/bytealg.IndexString", "internal/abi.NoEscape"], unfollowed := true, recurses := true, named := ["unicode/utf8.first", "unicode/utf8.acceptRanges", "internal/bytealg.MaxLen"], apart := false, laid := [("unicode/utf8.acceptRanges", laid_unicode_utf8_acceptRanges), ("unicode/utf8.first", laid_unicode_utf8_first)], narrowed := true }
def LinebreakSmallestUptoSaid : Prop := linebreakSmallestUptoRow.holds Tryd.pinned (OpenSpec.upto linebreakSmallestSpec)

/-- 'pentaglotlaw44.LinebreakText', WHERE WHAT IT READS IS OF BULK AT MOST 1048576: true; the input reads as it did. -/
def linebreakTextUptoRow : OpenClaim := { program := "ytkhohgmmgipfbaadoor", sum := "acb957e23d50fcffe153b33574ba59378308d77fa98e74aa489cff00f2608f90", func := "pentaglot/pentaglotlaw44.LinebreakText", spec := "linebreakText", inPlace := ["internal/bytealg.IndexByteString", "internal/bytealg.IndexString", "internal/abi.NoEscape"], unfollowed := true, recurses := true, named := ["unicode/utf8.first", "unicode/utf8.acceptRanges", "internal/bytealg.MaxLen"], apart := false, laid := [("unicode/utf8.acceptRanges", laid_unicode_utf8_acceptRanges), ("unicode/utf8.first", laid_unicode_utf8_first)], narrowed := true }
def LinebreakTextUptoSaid : Prop := linebreakTextUptoRow.holds Tryd.pinned (OpenSpec.upto linebreakTextSpec)

/-- 'pentaglotlaw44.LinebreakCost', WHERE WHAT IT READS IS OF BULK AT MOST 1048576: true; the input reads as it did. -/
def linebreakCostUptoRow : OpenClaim := { program := "ytkhohgmmgipfbaadoor", sum := "acb957e23d50fcffe153b33574ba59378308d77fa98e74aa489cff00f2608f90", func := "pentaglot/pentaglotlaw44.LinebreakCost", spec := "linebreakCost", inPlace := ["internal/bytealg.IndexByteString", "internal/bytealg.IndexString", "internal/abi.NoEscape"], unfollowed := true, recurses := true, named := ["unicode/utf8.first", "unicode/utf8.acceptRanges", "internal/bytealg.MaxLen"], apart := false, laid := [("unicode/utf8.acceptRanges", laid_unicode_utf8_acceptRanges), ("unicode/utf8.first", laid_unicode_utf8_first)], narrowed := true }
def LinebreakCostUptoSaid : Prop := linebreakCostUptoRow.holds Tryd.pinned (OpenSpec.upto linebreakCostSpec)

/-- 'pentaglotlaw44.LinebreakDivides', WHERE WHAT IT READS IS OF BULK AT MOST 1048576: true; the input reads as it did. -/
def linebreakDividesUptoRow : OpenClaim := { program := "ytkhohgmmgipfbaadoor", sum := "acb957e23d50fcffe153b33574ba59378308d77fa98e74aa489cff00f2608f90", func := "pentaglot/pentaglotlaw44.LinebreakDivides", spec := "linebreakDivides", inPlace := ["internal/bytealg.IndexByteString", "internal/bytealg.IndexString", "internal/abi.NoEscape"], unfollowed := true, recurses := true, named := ["unicode/utf8.first", "unicode/utf8.acceptRanges", "internal/bytealg.MaxLen"], apart := false, laid := [("unicode/utf8.acceptRanges", laid_unicode_utf8_acceptRanges), ("unicode/utf8.first", laid_unicode_utf8_first)], narrowed := true }
def LinebreakDividesUptoSaid : Prop := linebreakDividesUptoRow.holds Tryd.pinned (OpenSpec.upto linebreakDividesSpec)

/-- 'pentaglotlaw44.LinebreakOptimal', WHERE WHAT IT READS IS OF BULK AT MOST 1048576: true; the input reads as it did. -/
def linebreakOptimalUptoRow : OpenClaim := { program := "ytkhohgmmgipfbaadoor", sum := "acb957e23d50fcffe153b33574ba59378308d77fa98e74aa489cff00f2608f90", func := "pentaglot/pentaglotlaw44.LinebreakOptimal", spec := "linebreakOptimal", inPlace := ["internal/bytealg.IndexByteString", "internal/bytealg.IndexString", "internal/abi.NoEscape"], unfollowed := true, recurses := true, named := ["unicode/utf8.first", "unicode/utf8.acceptRanges", "internal/bytealg.MaxLen"], apart := false, laid := [("unicode/utf8.acceptRanges", laid_unicode_utf8_acceptRanges), ("unicode/utf8.first", laid_unicode_utf8_first)], narrowed := true }
def LinebreakOptimalUptoSaid : Prop := linebreakOptimalUptoRow.holds Tryd.pinned (OpenSpec.upto linebreakOptimalSpec)

end Rows
end Go.Proofs.YtkhohgmmgipfbaaDoor
