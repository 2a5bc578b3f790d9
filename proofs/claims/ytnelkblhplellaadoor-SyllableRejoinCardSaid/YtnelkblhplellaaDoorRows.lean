/-
  NARROWER THAN 'FOR EVERY INPUT', by the rows' own cells (each row's printed sentence says how): SyllableValid: laid · SyllableNuclei: laid · SyllableOnset: laid · SyllableMore: laid · SyllableSplit: laid · SyllableJoins: laid · SyllableMaximal: laid · SyllablePoints: laid · SyllableHeavy: laid · SyllableHyphenate: laid · SyllableRejoin: laid.
  DERIVED. THE GIVEN ROWS OF THIS SEAT. 11 by the template 'for every input the law returns true; each argument reads behind the call as it read before'; 0 by the template 'total and deterministic' (their statements: YtnelkblhplellaaDoorTotals.lean).
  GIVEN WITH THE SEED: the statements are not yours to turn. If you find one false, say at which input.
  Laid BY PROGRAM, IN A SANDBOX (cutbox-rows.mjs): the forced cells as the released guide's own fill.sh prints them over the translation 21326af53f2020b9… (all of the seat's roots in one cut). By AI agents, Wed Nov 11 2026. No macro, syntax, notation, axiom, sorry.
-/
import Derived.Test.YtnelkblhplellaaDoorChecked
import GoSem.PinnedTables
import GoSem.Claim
import GoSem.ClaimJoined
import GoSem.ClaimMapViews
import Derived.JoinedTies
import Derived.KernelRfl
namespace Go.Proofs.YtnelkblhplellaaDoor
/- THE CELL 'sum', in the pinned program and in every row, IS THE sha256 OF THE DUMP (.gsa) THAT YtnelkblhplellaaDoorProg.lean LOADS. Nothing in Lean hashes anything: it is a label: what it is worth is what the hold of that sum in a sandbox is worth. -/
noncomputable def Tryd.pinned : Pinned := { name := "ytnelkblhplellaadoor", sum := "21326af53f2020b982dd82675b011596ca8c323366198d10b6558791fb1e7568", checked := Tryd.checked }
namespace Rows
def none {H : Type} : Left H := { results := [], args := [] }

/- WHAT THE LISTED PACKAGE-LEVEL VARIABLES READ AS WHEN THE CALL BEGINS. Each datum BY PROGRAM (the guide's laid-datum.mjs) off the statement by which the dump's own 'gosem.cut.vars' lays the variable. In a bare row this is a premise. The card (YtnelkblhplellaaDoorCards.lean) ties it to the program's text. -/
def laid_unicode_utf8_acceptRanges {H : Type} : DataW H := .agg [.agg [.lit (.int .u8 128), .lit (.int .u8 191)], .agg [.lit (.int .u8 160), .lit (.int .u8 191)], .agg [.lit (.int .u8 128), .lit (.int .u8 159)], .agg [.lit (.int .u8 144), .lit (.int .u8 191)], .agg [.lit (.int .u8 128), .lit (.int .u8 143)], .agg [.lit (.int .u8 0), .lit (.int .u8 0)], .agg [.lit (.int .u8 0), .lit (.int .u8 0)], .agg [.lit (.int .u8 0), .lit (.int .u8 0)], .agg [.lit (.int .u8 0), .lit (.int .u8 0)], .agg [.lit (.int .u8 0), .lit (.int .u8 0)], .agg [.lit (.int .u8 0), .lit (.int .u8 0)], .agg [.lit (.int .u8 0), .lit (.int .u8 0)], .agg [.lit (.int .u8 0), .lit (.int .u8 0)], .agg [.lit (.int .u8 0), .lit (.int .u8 0)], .agg [.lit (.int .u8 0), .lit (.int .u8 0)], .agg [.lit (.int .u8 0), .lit (.int .u8 0)]]
/-- One of Go's own tables, pinned by name: the form's constant. -/
def laid_unicode_utf8_first : DataW Unit := Go.Pinned.utf8First

/-- 'pentaglotlaw13.SyllableValid': WHATEVER THE INPUT: true; the input reads as it did. -/
def syllableValidSpec : ChangeSpec := { name := "syllableValid", fn := fun _ => fun
  | [d] => { results := [.lit (.bool true)], args := [d] }
  | _ => none }
def syllableValidRow : OpenClaim := { program := "ytnelkblhplellaadoor", sum := "21326af53f2020b982dd82675b011596ca8c323366198d10b6558791fb1e7568", func := "pentaglot/pentaglotlaw13.SyllableValid", spec := "syllableValid", inPlace := ["internal/abi.NoEscape"], unfollowed := true, recurses := true, named := ["unicode/utf8.first", "unicode/utf8.acceptRanges"], apart := false, laid := [("unicode/utf8.acceptRanges", laid_unicode_utf8_acceptRanges), ("unicode/utf8.first", laid_unicode_utf8_first)] }
def SyllableValidSaid : Prop := syllableValidRow.holds Tryd.pinned (OpenSpec.ofChange syllableValidSpec)

/-- ITS FALSE NEIGHBOUR: 'it returns false'. Refute it at one input. -/
def syllableValidWrong : ChangeSpec := { name := "syllableValid", fn := fun _ => fun
  | [d] => { results := [.lit (.bool false)], args := [d] }
  | _ => none }
def SyllableValidWrongFalsely : Prop := syllableValidRow.holds Tryd.pinned (OpenSpec.ofChange syllableValidWrong)

/-- 'pentaglotlaw13.SyllableNuclei': WHATEVER THE INPUT: true; the input reads as it did. -/
def syllableNucleiSpec : ChangeSpec := { name := "syllableNuclei", fn := fun _ => fun
  | [d1, d2] => { results := [.lit (.bool true)], args := [d1, d2] }
  | _ => none }
def syllableNucleiRow : OpenClaim := { program := "ytnelkblhplellaadoor", sum := "21326af53f2020b982dd82675b011596ca8c323366198d10b6558791fb1e7568", func := "pentaglot/pentaglotlaw13.SyllableNuclei", spec := "syllableNuclei", inPlace := ["internal/abi.NoEscape"], unfollowed := true, recurses := true, named := ["unicode/utf8.first", "unicode/utf8.acceptRanges"], apart := false, laid := [("unicode/utf8.acceptRanges", laid_unicode_utf8_acceptRanges), ("unicode/utf8.first", laid_unicode_utf8_first)] }
def SyllableNucleiSaid : Prop := syllableNucleiRow.holds Tryd.pinned (OpenSpec.ofChange syllableNucleiSpec)

/-- ITS FALSE NEIGHBOUR: 'it returns false'. Refute it at one input. -/
def syllableNucleiWrong : ChangeSpec := { name := "syllableNuclei", fn := fun _ => fun
  | [d1, d2] => { results := [.lit (.bool false)], args := [d1, d2] }
  | _ => none }
def SyllableNucleiWrongFalsely : Prop := syllableNucleiRow.holds Tryd.pinned (OpenSpec.ofChange syllableNucleiWrong)

/-- 'pentaglotlaw13.SyllableOnset': WHATEVER THE INPUT: true; the input reads as it did. -/
def syllableOnsetSpec : ChangeSpec := { name := "syllableOnset", fn := fun _ => fun
  | [d1, d2, d3] => { results := [.lit (.bool true)], args := [d1, d2, d3] }
  | _ => none }
def syllableOnsetRow : OpenClaim := { program := "ytnelkblhplellaadoor", sum := "21326af53f2020b982dd82675b011596ca8c323366198d10b6558791fb1e7568", func := "pentaglot/pentaglotlaw13.SyllableOnset", spec := "syllableOnset", inPlace := ["internal/abi.NoEscape"], unfollowed := true, recurses := true, named := ["unicode/utf8.first", "unicode/utf8.acceptRanges"], apart := false, laid := [("unicode/utf8.acceptRanges", laid_unicode_utf8_acceptRanges), ("unicode/utf8.first", laid_unicode_utf8_first)] }
def SyllableOnsetSaid : Prop := syllableOnsetRow.holds Tryd.pinned (OpenSpec.ofChange syllableOnsetSpec)

/-- ITS FALSE NEIGHBOUR: 'it returns false'. Refute it at one input. -/
def syllableOnsetWrong : ChangeSpec := { name := "syllableOnset", fn := fun _ => fun
  | [d1, d2, d3] => { results := [.lit (.bool false)], args := [d1, d2, d3] }
  | _ => none }
def SyllableOnsetWrongFalsely : Prop := syllableOnsetRow.holds Tryd.pinned (OpenSpec.ofChange syllableOnsetWrong)

/-- 'pentaglotlaw13.SyllableMore': WHATEVER THE INPUT: true; the input reads as it did. -/
def syllableMoreSpec : ChangeSpec := { name := "syllableMore", fn := fun _ => fun
  | [d1, d2, d3, d4] => { results := [.lit (.bool true)], args := [d1, d2, d3, d4] }
  | _ => none }
def syllableMoreRow : OpenClaim := { program := "ytnelkblhplellaadoor", sum := "21326af53f2020b982dd82675b011596ca8c323366198d10b6558791fb1e7568", func := "pentaglot/pentaglotlaw13.SyllableMore", spec := "syllableMore", inPlace := ["internal/abi.NoEscape"], unfollowed := true, recurses := true, named := ["unicode/utf8.first", "unicode/utf8.acceptRanges"], apart := false, laid := [("unicode/utf8.acceptRanges", laid_unicode_utf8_acceptRanges), ("unicode/utf8.first", laid_unicode_utf8_first)] }
def SyllableMoreSaid : Prop := syllableMoreRow.holds Tryd.pinned (OpenSpec.ofChange syllableMoreSpec)

/-- ITS FALSE NEIGHBOUR: 'it returns false'. Refute it at one input. -/
def syllableMoreWrong : ChangeSpec := { name := "syllableMore", fn := fun _ => fun
  | [d1, d2, d3, d4] => { results := [.lit (.bool false)], args := [d1, d2, d3, d4] }
  | _ => none }
def SyllableMoreWrongFalsely : Prop := syllableMoreRow.holds Tryd.pinned (OpenSpec.ofChange syllableMoreWrong)

/-- 'pentaglotlaw13.SyllableSplit': WHATEVER THE INPUT: true; the input reads as it did. -/
def syllableSplitSpec : ChangeSpec := { name := "syllableSplit", fn := fun _ => fun
  | [d1, d2, d3] => { results := [.lit (.bool true)], args := [d1, d2, d3] }
  | _ => none }
def syllableSplitRow : OpenClaim := { program := "ytnelkblhplellaadoor", sum := "21326af53f2020b982dd82675b011596ca8c323366198d10b6558791fb1e7568", func := "pentaglot/pentaglotlaw13.SyllableSplit", spec := "syllableSplit", inPlace := ["internal/abi.NoEscape"], unfollowed := true, recurses := true, named := ["unicode/utf8.first", "unicode/utf8.acceptRanges"], apart := false, laid := [("unicode/utf8.acceptRanges", laid_unicode_utf8_acceptRanges), ("unicode/utf8.first", laid_unicode_utf8_first)] }
def SyllableSplitSaid : Prop := syllableSplitRow.holds Tryd.pinned (OpenSpec.ofChange syllableSplitSpec)

/-- ITS FALSE NEIGHBOUR: 'it returns false'. Refute it at one input. -/
def syllableSplitWrong : ChangeSpec := { name := "syllableSplit", fn := fun _ => fun
  | [d1, d2, d3] => { results := [.lit (.bool false)], args := [d1, d2, d3] }
  | _ => none }
def SyllableSplitWrongFalsely : Prop := syllableSplitRow.holds Tryd.pinned (OpenSpec.ofChange syllableSplitWrong)

/-- 'pentaglotlaw13.SyllableJoins': WHATEVER THE INPUT: true; the input reads as it did. -/
def syllableJoinsSpec : ChangeSpec := { name := "syllableJoins", fn := fun _ => fun
  | [d1, d2, d3] => { results := [.lit (.bool true)], args := [d1, d2, d3] }
  | _ => none }
def syllableJoinsRow : OpenClaim := { program := "ytnelkblhplellaadoor", sum := "21326af53f2020b982dd82675b011596ca8c323366198d10b6558791fb1e7568", func := "pentaglot/pentaglotlaw13.SyllableJoins", spec := "syllableJoins", inPlace := ["internal/abi.NoEscape"], unfollowed := true, recurses := true, named := ["unicode/utf8.first", "unicode/utf8.acceptRanges"], apart := false, laid := [("unicode/utf8.acceptRanges", laid_unicode_utf8_acceptRanges), ("unicode/utf8.first", laid_unicode_utf8_first)] }
def SyllableJoinsSaid : Prop := syllableJoinsRow.holds Tryd.pinned (OpenSpec.ofChange syllableJoinsSpec)

/-- ITS FALSE NEIGHBOUR: 'it returns false'. Refute it at one input. -/
def syllableJoinsWrong : ChangeSpec := { name := "syllableJoins", fn := fun _ => fun
  | [d1, d2, d3] => { results := [.lit (.bool false)], args := [d1, d2, d3] }
  | _ => none }
def SyllableJoinsWrongFalsely : Prop := syllableJoinsRow.holds Tryd.pinned (OpenSpec.ofChange syllableJoinsWrong)

/-- 'pentaglotlaw13.SyllableMaximal': WHATEVER THE INPUT: true; the input reads as it did. -/
def syllableMaximalSpec : ChangeSpec := { name := "syllableMaximal", fn := fun _ => fun
  | [d1, d2, d3] => { results := [.lit (.bool true)], args := [d1, d2, d3] }
  | _ => none }
def syllableMaximalRow : OpenClaim := { program := "ytnelkblhplellaadoor", sum := "21326af53f2020b982dd82675b011596ca8c323366198d10b6558791fb1e7568", func := "pentaglot/pentaglotlaw13.SyllableMaximal", spec := "syllableMaximal", inPlace := ["internal/abi.NoEscape"], unfollowed := true, recurses := true, named := ["unicode/utf8.first", "unicode/utf8.acceptRanges"], apart := false, laid := [("unicode/utf8.acceptRanges", laid_unicode_utf8_acceptRanges), ("unicode/utf8.first", laid_unicode_utf8_first)] }
def SyllableMaximalSaid : Prop := syllableMaximalRow.holds Tryd.pinned (OpenSpec.ofChange syllableMaximalSpec)

/-- ITS FALSE NEIGHBOUR: 'it returns false'. Refute it at one input. -/
def syllableMaximalWrong : ChangeSpec := { name := "syllableMaximal", fn := fun _ => fun
  | [d1, d2, d3] => { results := [.lit (.bool false)], args := [d1, d2, d3] }
  | _ => none }
def SyllableMaximalWrongFalsely : Prop := syllableMaximalRow.holds Tryd.pinned (OpenSpec.ofChange syllableMaximalWrong)

/-- 'pentaglotlaw13.SyllablePoints': WHATEVER THE INPUT: true; the input reads as it did. -/
def syllablePointsSpec : ChangeSpec := { name := "syllablePoints", fn := fun _ => fun
  | [d1, d2, d3] => { results := [.lit (.bool true)], args := [d1, d2, d3] }
  | _ => none }
def syllablePointsRow : OpenClaim := { program := "ytnelkblhplellaadoor", sum := "21326af53f2020b982dd82675b011596ca8c323366198d10b6558791fb1e7568", func := "pentaglot/pentaglotlaw13.SyllablePoints", spec := "syllablePoints", inPlace := ["internal/abi.NoEscape"], unfollowed := true, recurses := true, named := ["unicode/utf8.first", "unicode/utf8.acceptRanges"], apart := false, laid := [("unicode/utf8.acceptRanges", laid_unicode_utf8_acceptRanges), ("unicode/utf8.first", laid_unicode_utf8_first)] }
def SyllablePointsSaid : Prop := syllablePointsRow.holds Tryd.pinned (OpenSpec.ofChange syllablePointsSpec)

/-- ITS FALSE NEIGHBOUR: 'it returns false'. Refute it at one input. -/
def syllablePointsWrong : ChangeSpec := { name := "syllablePoints", fn := fun _ => fun
  | [d1, d2, d3] => { results := [.lit (.bool false)], args := [d1, d2, d3] }
  | _ => none }
def SyllablePointsWrongFalsely : Prop := syllablePointsRow.holds Tryd.pinned (OpenSpec.ofChange syllablePointsWrong)

/-- 'pentaglotlaw13.SyllableHeavy': WHATEVER THE INPUT: true; the input reads as it did. -/
def syllableHeavySpec : ChangeSpec := { name := "syllableHeavy", fn := fun _ => fun
  | [d1, d2, d3] => { results := [.lit (.bool true)], args := [d1, d2, d3] }
  | _ => none }
def syllableHeavyRow : OpenClaim := { program := "ytnelkblhplellaadoor", sum := "21326af53f2020b982dd82675b011596ca8c323366198d10b6558791fb1e7568", func := "pentaglot/pentaglotlaw13.SyllableHeavy", spec := "syllableHeavy", inPlace := ["internal/abi.NoEscape"], unfollowed := true, recurses := true, named := ["unicode/utf8.first", "unicode/utf8.acceptRanges"], apart := false, laid := [("unicode/utf8.acceptRanges", laid_unicode_utf8_acceptRanges), ("unicode/utf8.first", laid_unicode_utf8_first)] }
def SyllableHeavySaid : Prop := syllableHeavyRow.holds Tryd.pinned (OpenSpec.ofChange syllableHeavySpec)

/-- ITS FALSE NEIGHBOUR: 'it returns false'. Refute it at one input. -/
def syllableHeavyWrong : ChangeSpec := { name := "syllableHeavy", fn := fun _ => fun
  | [d1, d2, d3] => { results := [.lit (.bool false)], args := [d1, d2, d3] }
  | _ => none }
def SyllableHeavyWrongFalsely : Prop := syllableHeavyRow.holds Tryd.pinned (OpenSpec.ofChange syllableHeavyWrong)

/-- 'pentaglotlaw13.SyllableHyphenate': WHATEVER THE INPUT: true; the input reads as it did. -/
def syllableHyphenateSpec : ChangeSpec := { name := "syllableHyphenate", fn := fun _ => fun
  | [d1, d2] => { results := [.lit (.bool true)], args := [d1, d2] }
  | _ => none }
def syllableHyphenateRow : OpenClaim := { program := "ytnelkblhplellaadoor", sum := "21326af53f2020b982dd82675b011596ca8c323366198d10b6558791fb1e7568", func := "pentaglot/pentaglotlaw13.SyllableHyphenate", spec := "syllableHyphenate", inPlace := ["internal/abi.NoEscape", "internal/bytealg.CountString", "internal/bytealg.IndexByteString", "internal/bytealg.IndexString", "internal/bytealg.MakeNoZero"], unfollowed := true, recurses := true, named := ["unicode/utf8.first", "unicode/utf8.acceptRanges", "internal/bytealg.MaxLen"], apart := false, laid := [("unicode/utf8.acceptRanges", laid_unicode_utf8_acceptRanges), ("unicode/utf8.first", laid_unicode_utf8_first)] }
def SyllableHyphenateSaid : Prop := syllableHyphenateRow.holds Tryd.pinned (OpenSpec.ofChange syllableHyphenateSpec)

/-- ITS FALSE NEIGHBOUR: 'it returns false'. Refute it at one input. -/
def syllableHyphenateWrong : ChangeSpec := { name := "syllableHyphenate", fn := fun _ => fun
  | [d1, d2] => { results := [.lit (.bool false)], args := [d1, d2] }
  | _ => none }
def SyllableHyphenateWrongFalsely : Prop := syllableHyphenateRow.holds Tryd.pinned (OpenSpec.ofChange syllableHyphenateWrong)

/-- 'pentaglotlaw13.SyllableRejoin': WHATEVER THE INPUT: true; the input reads as it did. -/
def syllableRejoinSpec : ChangeSpec := { name := "syllableRejoin", fn := fun _ => fun
  | [d1, d2] => { results := [.lit (.bool true)], args := [d1, d2] }
  | _ => none }
def syllableRejoinRow : OpenClaim := { program := "ytnelkblhplellaadoor", sum := "21326af53f2020b982dd82675b011596ca8c323366198d10b6558791fb1e7568", func := "pentaglot/pentaglotlaw13.SyllableRejoin", spec := "syllableRejoin", inPlace := ["internal/abi.NoEscape", "internal/bytealg.CountString", "internal/bytealg.IndexByteString", "internal/bytealg.IndexString", "internal/bytealg.MakeNoZero"], unfollowed := true, recurses := true, named := ["unicode/utf8.first", "unicode/utf8.acceptRanges", "internal/bytealg.MaxLen"], apart := false, laid := [("unicode/utf8.acceptRanges", laid_unicode_utf8_acceptRanges), ("unicode/utf8.first", laid_unicode_utf8_first)] }
def SyllableRejoinSaid : Prop := syllableRejoinRow.holds Tryd.pinned (OpenSpec.ofChange syllableRejoinSpec)

/-- ITS FALSE NEIGHBOUR: 'it returns false'. Refute it at one input. -/
def syllableRejoinWrong : ChangeSpec := { name := "syllableRejoin", fn := fun _ => fun
  | [d1, d2] => { results := [.lit (.bool false)], args := [d1, d2] }
  | _ => none }
def SyllableRejoinWrongFalsely : Prop := syllableRejoinRow.holds Tryd.pinned (OpenSpec.ofChange syllableRejoinWrong)

/- THE SECOND FORM. 'bulk': how many values and letters a reading holds, each counted each time it is reached (what is shared counts as often as it is met; a slice's spare places count too). A statement '..UptoSaid' is the law's where the arguments, and the package variables that the reading takes, are together of bulk at most 1048576: NARROWER than '..Said'. Prove '..Said' where nothing that the law and all that it calls make is longer than what came in: it says more and counts as full. Else prove '..UptoSaid'. A law counts once. -/
mutual
def uptoBulk {H : Type} : DataW H → Nat
  | .lit (.string bytes) => bytes.length + 1
  | .lit _ => 1
  | .nil => 1
  | .ptr d => uptoBulk d + 1
  | .slice elems spare => uptoBulkAll elems + uptoBulkAll spare + 1
  | .agg parts => uptoBulkAll parts + 1
  | .iface _ d => uptoBulk d + 1
  | .map entries => uptoBulkEntries entries + 1
  | .held _ => 1
def uptoBulkAll {H : Type} : List (DataW H) → Nat
  | [] => 0
  | d :: r => uptoBulk d + uptoBulkAll r
def uptoBulkEntries {H : Type} : List (Lit × DataW H) → Nat
  | [] => 0
  | x :: r => uptoBulkEntry x + uptoBulkEntries r
def uptoBulkEntry {H : Type} : Lit × DataW H → Nat
  | (.string bytes, d) => bytes.length + uptoBulk d + 1
  | (_, d) => uptoBulk d + 1
 end
def uptoSmall : (H : Type) → List (DataW H) → Bool := fun _ ds => decide (uptoBulkAll ds ≤ 1048576)
def OpenSpec.upto (s : _root_.Go.ChangeSpec) : _root_.Go.OpenSpec := { _root_.Go.OpenSpec.ofChange s with cond := some uptoSmall }

/-- 'pentaglotlaw13.SyllableValid', WHERE WHAT IT READS IS OF BULK AT MOST 1048576: true; the input reads as it did. -/
def syllableValidUptoRow : OpenClaim := { program := "ytnelkblhplellaadoor", sum := "21326af53f2020b982dd82675b011596ca8c323366198d10b6558791fb1e7568", func := "pentaglot/pentaglotlaw13.SyllableValid", spec := "syllableValid", inPlace := ["internal/abi.NoEscape"], unfollowed := true, recurses := true, named := ["unicode/utf8.first", "unicode/utf8.acceptRanges"], apart := false, laid := [("unicode/utf8.acceptRanges", laid_unicode_utf8_acceptRanges), ("unicode/utf8.first", laid_unicode_utf8_first)], narrowed := true }
def SyllableValidUptoSaid : Prop := syllableValidUptoRow.holds Tryd.pinned (OpenSpec.upto syllableValidSpec)

/-- 'pentaglotlaw13.SyllableNuclei', WHERE WHAT IT READS IS OF BULK AT MOST 1048576: true; the input reads as it did. -/
def syllableNucleiUptoRow : OpenClaim := { program := "ytnelkblhplellaadoor", sum := "21326af53f2020b982dd82675b011596ca8c323366198d10b6558791fb1e7568", func := "pentaglot/pentaglotlaw13.SyllableNuclei", spec := "syllableNuclei", inPlace := ["internal/abi.NoEscape"], unfollowed := true, recurses := true, named := ["unicode/utf8.first", "unicode/utf8.acceptRanges"], apart := false, laid := [("unicode/utf8.acceptRanges", laid_unicode_utf8_acceptRanges), ("unicode/utf8.first", laid_unicode_utf8_first)], narrowed := true }
def SyllableNucleiUptoSaid : Prop := syllableNucleiUptoRow.holds Tryd.pinned (OpenSpec.upto syllableNucleiSpec)

/-- 'pentaglotlaw13.SyllableOnset', WHERE WHAT IT READS IS OF BULK AT MOST 1048576: true; the input reads as it did. -/
def syllableOnsetUptoRow : OpenClaim := { program := "ytnelkblhplellaadoor", sum := "21326af53f2020b982dd82675b011596ca8c323366198d10b6558791fb1e7568", func := "pentaglot/pentaglotlaw13.SyllableOnset", spec := "syllableOnset", inPlace := ["internal/abi.NoEscape"], unfollowed := true, recurses := true, named := ["unicode/utf8.first", "unicode/utf8.acceptRanges"], apart := false, laid := [("unicode/utf8.acceptRanges", laid_unicode_utf8_acceptRanges), ("unicode/utf8.first", laid_unicode_utf8_first)], narrowed := true }
def SyllableOnsetUptoSaid : Prop := syllableOnsetUptoRow.holds Tryd.pinned (OpenSpec.upto syllableOnsetSpec)

/-- 'pentaglotlaw13.SyllableMore', WHERE WHAT IT READS IS OF BULK AT MOST 1048576: true; the input reads as it did. -/
def syllableMoreUptoRow : OpenClaim := { program := "ytnelkblhplellaadoor", sum := "21326af53f2020b982dd82675b011596ca8c323366198d10b6558791fb1e7568", func := "pentaglot/pentaglotlaw13.SyllableMore", spec := "syllableMore", inPlace := ["internal/abi.NoEscape"], unfollowed := true, recurses := true, named := ["unicode/utf8.first", "unicode/utf8.acceptRanges"], apart := false, laid := [("unicode/utf8.acceptRanges", laid_unicode_utf8_acceptRanges), ("unicode/utf8.first", laid_unicode_utf8_first)], narrowed := true }
def SyllableMoreUptoSaid : Prop := syllableMoreUptoRow.holds Tryd.pinned (OpenSpec.upto syllableMoreSpec)

/-- 'pentaglotlaw13.SyllableSplit', WHERE WHAT IT READS IS OF BULK AT MOST 1048576: true; the input reads as it did. -/
def syllableSplitUptoRow : OpenClaim := { program := "ytnelkblhplellaadoor", sum := "21326af53f2020b982dd82675b011596ca8c323366198d10b6558791fb1e7568", func := "pentaglot/pentaglotlaw13.SyllableSplit", spec := "syllableSplit", inPlace := ["internal/abi.NoEscape"], unfollowed := true, recurses := true, named := ["unicode/utf8.first", "unicode/utf8.acceptRanges"], apart := false, laid := [("unicode/utf8.acceptRanges", laid_unicode_utf8_acceptRanges), ("unicode/utf8.first", laid_unicode_utf8_first)], narrowed := true }
def SyllableSplitUptoSaid : Prop := syllableSplitUptoRow.holds Tryd.pinned (OpenSpec.upto syllableSplitSpec)

/-- 'pentaglotlaw13.SyllableJoins', WHERE WHAT IT READS IS OF BULK AT MOST 1048576: true; the input reads as it did. -/
def syllableJoinsUptoRow : OpenClaim := { program := "ytnelkblhplellaadoor", sum := "21326af53f2020b982dd82675b011596ca8c323366198d10b6558791fb1e7568", func := "pentaglot/pentaglotlaw13.SyllableJoins", spec := "syllableJoins", inPlace := ["internal/abi.NoEscape"], unfollowed := true, recurses := true, named := ["unicode/utf8.first", "unicode/utf8.acceptRanges"], apart := false, laid := [("unicode/utf8.acceptRanges", laid_unicode_utf8_acceptRanges), ("unicode/utf8.first", laid_unicode_utf8_first)], narrowed := true }
def SyllableJoinsUptoSaid : Prop := syllableJoinsUptoRow.holds Tryd.pinned (OpenSpec.upto syllableJoinsSpec)

/-- 'pentaglotlaw13.SyllableMaximal', WHERE WHAT IT READS IS OF BULK AT MOST 1048576: true; the input reads as it did. -/
def syllableMaximalUptoRow : OpenClaim := { program := "ytnelkblhplellaadoor", sum := "21326af53f2020b982dd82675b011596ca8c323366198d10b6558791fb1e7568", func := "pentaglot/pentaglotlaw13.SyllableMaximal", spec := "syllableMaximal", inPlace := ["internal/abi.NoEscape"], unfollowed := true, recurses := true, named := ["unicode/utf8.first", "unicode/utf8.acceptRanges"], apart := false, laid := [("unicode/utf8.acceptRanges", laid_unicode_utf8_acceptRanges), ("unicode/utf8.first", laid_unicode_utf8_first)], narrowed := true }
def SyllableMaximalUptoSaid : Prop := syllableMaximalUptoRow.holds Tryd.pinned (OpenSpec.upto syllableMaximalSpec)

/-- 'pentaglotlaw13.SyllablePoints', WHERE WHAT IT READS IS OF BULK AT MOST 1048576: true; the input reads as it did. -/
def syllablePointsUptoRow : OpenClaim := { program := "ytnelkblhplellaadoor", sum := "21326af53f2020b982dd82675b011596ca8c323366198d10b6558791fb1e7568", func := "pentaglot/pentaglotlaw13.SyllablePoints", spec := "syllablePoints", inPlace := ["internal/abi.NoEscape"], unfollowed := true, recurses := true, named := ["unicode/utf8.first", "unicode/utf8.acceptRanges"], apart := false, laid := [("unicode/utf8.acceptRanges", laid_unicode_utf8_acceptRanges), ("unicode/utf8.first", laid_unicode_utf8_first)], narrowed := true }
def SyllablePointsUptoSaid : Prop := syllablePointsUptoRow.holds Tryd.pinned (OpenSpec.upto syllablePointsSpec)

/-- 'pentaglotlaw13.SyllableHeavy', WHERE WHAT IT READS IS OF BULK AT MOST 1048576: true; the input reads as it did. -/
def syllableHeavyUptoRow : OpenClaim := { program := "ytnelkblhplellaadoor", sum := "21326af53f2020b982dd82675b011596ca8c323366198d10b6558791fb1e7568", func := "pentaglot/pentaglotlaw13.SyllableHeavy", spec := "syllableHeavy", inPlace := ["internal/abi.NoEscape"], unfollowed := true, recurses := true, named := ["unicode/utf8.first", "unicode/utf8.acceptRanges"], apart := false, laid := [("unicode/utf8.acceptRanges", laid_unicode_utf8_acceptRanges), ("unicode/utf8.first", laid_unicode_utf8_first)], narrowed := true }
def SyllableHeavyUptoSaid : Prop := syllableHeavyUptoRow.holds Tryd.pinned (OpenSpec.upto syllableHeavySpec)

/-- 'pentaglotlaw13.SyllableHyphenate', WHERE WHAT IT READS IS OF BULK AT MOST 1048576: true; the input reads as it did. -/
def syllableHyphenateUptoRow : OpenClaim := { program := "ytnelkblhplellaadoor", sum := "21326af53f2020b982dd82675b011596ca8c323366198d10b6558791fb1e7568", func := "pentaglot/pentaglotlaw13.SyllableHyphenate", spec := "syllableHyphenate", inPlace := ["internal/abi.NoEscape", "internal/bytealg.CountString", "internal/bytealg.IndexByteString", "internal/bytealg.IndexString", "internal/bytealg.MakeNoZero"], unfollowed := true, recurses := true, named := ["unicode/utf8.first", "unicode/utf8.acceptRanges", "internal/bytealg.MaxLen"], apart := false, laid := [("unicode/utf8.acceptRanges", laid_unicode_utf8_acceptRanges), ("unicode/utf8.first", laid_unicode_utf8_first)], narrowed := true }
def SyllableHyphenateUptoSaid : Prop := syllableHyphenateUptoRow.holds Tryd.pinned (OpenSpec.upto syllableHyphenateSpec)

/-- 'pentaglotlaw13.SyllableRejoin', WHERE WHAT IT READS IS OF BULK AT MOST 1048576: true; the input reads as it did. -/
def syllableRejoinUptoRow : OpenClaim := { program := "ytnelkblhplellaadoor", sum := "21326af53f2020b982dd82675b011596ca8c323366198d10b6558791fb1e7568", func := "pentaglot/pentaglotlaw13.SyllableRejoin", spec := "syllableRejoin", inPlace := ["internal/abi.NoEscape", "internal/bytealg.CountString", "internal/bytealg.IndexByteString", "internal/bytealg.IndexString", "internal/bytealg.MakeNoZero"], unfollowed := true, recurses := true, named := ["unicode/utf8.first", "unicode/utf8.acceptRanges", "internal/bytealg.MaxLen"], apart := false, laid := [("unicode/utf8.acceptRanges", laid_unicode_utf8_acceptRanges), ("unicode/utf8.first", laid_unicode_utf8_first)], narrowed := true }
def SyllableRejoinUptoSaid : Prop := syllableRejoinUptoRow.holds Tryd.pinned (OpenSpec.upto syllableRejoinSpec)

end Rows
end Go.Proofs.YtnelkblhplellaaDoor
