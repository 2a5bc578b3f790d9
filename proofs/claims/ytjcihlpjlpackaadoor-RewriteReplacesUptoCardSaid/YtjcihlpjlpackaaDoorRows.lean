/-
  NARROWER THAN 'FOR EVERY INPUT', by the rows' own cells (each row's printed sentence says how): RewriteValid: laid · RewriteSites: laid · RewriteApply: laid · RewriteReplaces: laid · RewriteCascade: laid · RewriteTrace: laid · RewriteFeeds: laid · RewriteContexts: laid · RewriteCommute: laid.
  DERIVED. THE GIVEN ROWS OF THIS SEAT. 9 by the template 'for every input the law returns true; each argument reads behind the call as it read before'; 0 by the template 'total and deterministic' (their statements: YtjcihlpjlpackaaDoorTotals.lean).
  GIVEN WITH THE SEED: the statements are not yours to turn. If you find one false, say at which input.
  Laid BY PROGRAM, IN A SANDBOX (cutbox-rows.mjs): the forced cells as the released guide's own fill.sh prints them over the translation fe7561da2750da7b… (all of the seat's roots in one cut). By AI agents, Wed Nov 11 2026. No macro, syntax, notation, axiom, sorry.
-/
import Derived.Test.YtjcihlpjlpackaaDoorChecked
import GoSem.PinnedTables
import GoSem.Claim
import GoSem.ClaimJoined
import GoSem.ClaimMapViews
import Derived.JoinedTies
import Derived.KernelRfl
namespace Go.Proofs.YtjcihlpjlpackaaDoor
/- THE CELL 'sum', in the pinned program and in every row, IS THE sha256 OF THE DUMP (.gsa) THAT YtjcihlpjlpackaaDoorProg.lean LOADS. Nothing in Lean hashes anything: it is a label: what it is worth is what the hold of that sum in a sandbox is worth. -/
noncomputable def Tryd.pinned : Pinned := { name := "ytjcihlpjlpackaadoor", sum := "fe7561da2750da7b5eb21db9e16fa998caa651d45a228150c8c6463d72f97e34", checked := Tryd.checked }
namespace Rows
def none {H : Type} : Left H := { results := [], args := [] }

/- WHAT THE LISTED PACKAGE-LEVEL VARIABLES READ AS WHEN THE CALL BEGINS. Each datum BY PROGRAM (the guide's laid-datum.mjs) off the statement by which the dump's own 'gosem.cut.vars' lays the variable. In a bare row this is a premise. The card (YtjcihlpjlpackaaDoorCards.lean) ties it to the program's text. -/
def laid_unicode_utf8_acceptRanges {H : Type} : DataW H := .agg [.agg [.lit (.int .u8 128), .lit (.int .u8 191)], .agg [.lit (.int .u8 160), .lit (.int .u8 191)], .agg [.lit (.int .u8 128), .lit (.int .u8 159)], .agg [.lit (.int .u8 144), .lit (.int .u8 191)], .agg [.lit (.int .u8 128), .lit (.int .u8 143)], .agg [.lit (.int .u8 0), .lit (.int .u8 0)], .agg [.lit (.int .u8 0), .lit (.int .u8 0)], .agg [.lit (.int .u8 0), .lit (.int .u8 0)], .agg [.lit (.int .u8 0), .lit (.int .u8 0)], .agg [.lit (.int .u8 0), .lit (.int .u8 0)], .agg [.lit (.int .u8 0), .lit (.int .u8 0)], .agg [.lit (.int .u8 0), .lit (.int .u8 0)], .agg [.lit (.int .u8 0), .lit (.int .u8 0)], .agg [.lit (.int .u8 0), .lit (.int .u8 0)], .agg [.lit (.int .u8 0), .lit (.int .u8 0)], .agg [.lit (.int .u8 0), .lit (.int .u8 0)]]
/-- One of Go's own tables, pinned by name: the form's constant. -/
def laid_unicode_utf8_first : DataW Unit := Go.Pinned.utf8First

/-- 'pentaglotlaw07.RewriteValid': WHATEVER THE INPUT: true; the input reads as it did. -/
def rewriteValidSpec : ChangeSpec := { name := "rewriteValid", fn := fun _ => fun
  | [d1, d2] => { results := [.lit (.bool true)], args := [d1, d2] }
  | _ => none }
def rewriteValidRow : OpenClaim := { program := "ytjcihlpjlpackaadoor", sum := "fe7561da2750da7b5eb21db9e16fa998caa651d45a228150c8c6463d72f97e34", func := "pentaglot/pentaglotlaw07.RewriteValid", spec := "rewriteValid", unfollowed := true, recurses := true, named := ["unicode/utf8.first", "unicode/utf8.acceptRanges"], apart := false, laid := [("unicode/utf8.acceptRanges", laid_unicode_utf8_acceptRanges), ("unicode/utf8.first", laid_unicode_utf8_first)] }
def RewriteValidSaid : Prop := rewriteValidRow.holds Tryd.pinned (OpenSpec.ofChange rewriteValidSpec)

/-- ITS FALSE NEIGHBOUR: 'it returns false'. Refute it at one input. -/
def rewriteValidWrong : ChangeSpec := { name := "rewriteValid", fn := fun _ => fun
  | [d1, d2] => { results := [.lit (.bool false)], args := [d1, d2] }
  | _ => none }
def RewriteValidWrongFalsely : Prop := rewriteValidRow.holds Tryd.pinned (OpenSpec.ofChange rewriteValidWrong)

/-- 'pentaglotlaw07.RewriteSites': WHATEVER THE INPUT: true; the input reads as it did. -/
def rewriteSitesSpec : ChangeSpec := { name := "rewriteSites", fn := fun _ => fun
  | [d1, d2, d3] => { results := [.lit (.bool true)], args := [d1, d2, d3] }
  | _ => none }
def rewriteSitesRow : OpenClaim := { program := "ytjcihlpjlpackaadoor", sum := "fe7561da2750da7b5eb21db9e16fa998caa651d45a228150c8c6463d72f97e34", func := "pentaglot/pentaglotlaw07.RewriteSites", spec := "rewriteSites", unfollowed := true, recurses := true, named := ["unicode/utf8.first", "unicode/utf8.acceptRanges"], apart := false, laid := [("unicode/utf8.acceptRanges", laid_unicode_utf8_acceptRanges), ("unicode/utf8.first", laid_unicode_utf8_first)] }
def RewriteSitesSaid : Prop := rewriteSitesRow.holds Tryd.pinned (OpenSpec.ofChange rewriteSitesSpec)

/-- ITS FALSE NEIGHBOUR: 'it returns false'. Refute it at one input. -/
def rewriteSitesWrong : ChangeSpec := { name := "rewriteSites", fn := fun _ => fun
  | [d1, d2, d3] => { results := [.lit (.bool false)], args := [d1, d2, d3] }
  | _ => none }
def RewriteSitesWrongFalsely : Prop := rewriteSitesRow.holds Tryd.pinned (OpenSpec.ofChange rewriteSitesWrong)

/-- 'pentaglotlaw07.RewriteApply': WHATEVER THE INPUT: true; the input reads as it did. -/
def rewriteApplySpec : ChangeSpec := { name := "rewriteApply", fn := fun _ => fun
  | [d1, d2, d3] => { results := [.lit (.bool true)], args := [d1, d2, d3] }
  | _ => none }
def rewriteApplyRow : OpenClaim := { program := "ytjcihlpjlpackaadoor", sum := "fe7561da2750da7b5eb21db9e16fa998caa651d45a228150c8c6463d72f97e34", func := "pentaglot/pentaglotlaw07.RewriteApply", spec := "rewriteApply", unfollowed := true, recurses := true, named := ["unicode/utf8.first", "unicode/utf8.acceptRanges"], apart := false, laid := [("unicode/utf8.acceptRanges", laid_unicode_utf8_acceptRanges), ("unicode/utf8.first", laid_unicode_utf8_first)] }
def RewriteApplySaid : Prop := rewriteApplyRow.holds Tryd.pinned (OpenSpec.ofChange rewriteApplySpec)

/-- ITS FALSE NEIGHBOUR: 'it returns false'. Refute it at one input. -/
def rewriteApplyWrong : ChangeSpec := { name := "rewriteApply", fn := fun _ => fun
  | [d1, d2, d3] => { results := [.lit (.bool false)], args := [d1, d2, d3] }
  | _ => none }
def RewriteApplyWrongFalsely : Prop := rewriteApplyRow.holds Tryd.pinned (OpenSpec.ofChange rewriteApplyWrong)

/-- 'pentaglotlaw07.RewriteReplaces': WHATEVER THE INPUT: true; the input reads as it did. -/
def rewriteReplacesSpec : ChangeSpec := { name := "rewriteReplaces", fn := fun _ => fun
  | [d1, d2, d3] => { results := [.lit (.bool true)], args := [d1, d2, d3] }
  | _ => none }
def rewriteReplacesRow : OpenClaim := { program := "ytjcihlpjlpackaadoor", sum := "fe7561da2750da7b5eb21db9e16fa998caa651d45a228150c8c6463d72f97e34", func := "pentaglot/pentaglotlaw07.RewriteReplaces", spec := "rewriteReplaces", unfollowed := true, recurses := true, named := ["unicode/utf8.first", "unicode/utf8.acceptRanges"], apart := false, laid := [("unicode/utf8.acceptRanges", laid_unicode_utf8_acceptRanges), ("unicode/utf8.first", laid_unicode_utf8_first)] }
def RewriteReplacesSaid : Prop := rewriteReplacesRow.holds Tryd.pinned (OpenSpec.ofChange rewriteReplacesSpec)

/-- ITS FALSE NEIGHBOUR: 'it returns false'. Refute it at one input. -/
def rewriteReplacesWrong : ChangeSpec := { name := "rewriteReplaces", fn := fun _ => fun
  | [d1, d2, d3] => { results := [.lit (.bool false)], args := [d1, d2, d3] }
  | _ => none }
def RewriteReplacesWrongFalsely : Prop := rewriteReplacesRow.holds Tryd.pinned (OpenSpec.ofChange rewriteReplacesWrong)

/-- 'pentaglotlaw07.RewriteCascade': WHATEVER THE INPUT: true; the input reads as it did. -/
def rewriteCascadeSpec : ChangeSpec := { name := "rewriteCascade", fn := fun _ => fun
  | [d1, d2, d3] => { results := [.lit (.bool true)], args := [d1, d2, d3] }
  | _ => none }
def rewriteCascadeRow : OpenClaim := { program := "ytjcihlpjlpackaadoor", sum := "fe7561da2750da7b5eb21db9e16fa998caa651d45a228150c8c6463d72f97e34", func := "pentaglot/pentaglotlaw07.RewriteCascade", spec := "rewriteCascade", unfollowed := true, recurses := true, named := ["unicode/utf8.first", "unicode/utf8.acceptRanges"], apart := false, laid := [("unicode/utf8.acceptRanges", laid_unicode_utf8_acceptRanges), ("unicode/utf8.first", laid_unicode_utf8_first)] }
def RewriteCascadeSaid : Prop := rewriteCascadeRow.holds Tryd.pinned (OpenSpec.ofChange rewriteCascadeSpec)

/-- ITS FALSE NEIGHBOUR: 'it returns false'. Refute it at one input. -/
def rewriteCascadeWrong : ChangeSpec := { name := "rewriteCascade", fn := fun _ => fun
  | [d1, d2, d3] => { results := [.lit (.bool false)], args := [d1, d2, d3] }
  | _ => none }
def RewriteCascadeWrongFalsely : Prop := rewriteCascadeRow.holds Tryd.pinned (OpenSpec.ofChange rewriteCascadeWrong)

/-- 'pentaglotlaw07.RewriteTrace': WHATEVER THE INPUT: true; the input reads as it did. -/
def rewriteTraceSpec : ChangeSpec := { name := "rewriteTrace", fn := fun _ => fun
  | [d1, d2, d3, d4] => { results := [.lit (.bool true)], args := [d1, d2, d3, d4] }
  | _ => none }
def rewriteTraceRow : OpenClaim := { program := "ytjcihlpjlpackaadoor", sum := "fe7561da2750da7b5eb21db9e16fa998caa651d45a228150c8c6463d72f97e34", func := "pentaglot/pentaglotlaw07.RewriteTrace", spec := "rewriteTrace", unfollowed := true, recurses := true, named := ["unicode/utf8.first", "unicode/utf8.acceptRanges"], apart := false, laid := [("unicode/utf8.acceptRanges", laid_unicode_utf8_acceptRanges), ("unicode/utf8.first", laid_unicode_utf8_first)] }
def RewriteTraceSaid : Prop := rewriteTraceRow.holds Tryd.pinned (OpenSpec.ofChange rewriteTraceSpec)

/-- ITS FALSE NEIGHBOUR: 'it returns false'. Refute it at one input. -/
def rewriteTraceWrong : ChangeSpec := { name := "rewriteTrace", fn := fun _ => fun
  | [d1, d2, d3, d4] => { results := [.lit (.bool false)], args := [d1, d2, d3, d4] }
  | _ => none }
def RewriteTraceWrongFalsely : Prop := rewriteTraceRow.holds Tryd.pinned (OpenSpec.ofChange rewriteTraceWrong)

/-- 'pentaglotlaw07.RewriteFeeds': WHATEVER THE INPUT: true; the input reads as it did. -/
def rewriteFeedsSpec : ChangeSpec := { name := "rewriteFeeds", fn := fun _ => fun
  | [d1, d2, d3, d4] => { results := [.lit (.bool true)], args := [d1, d2, d3, d4] }
  | _ => none }
def rewriteFeedsRow : OpenClaim := { program := "ytjcihlpjlpackaadoor", sum := "fe7561da2750da7b5eb21db9e16fa998caa651d45a228150c8c6463d72f97e34", func := "pentaglot/pentaglotlaw07.RewriteFeeds", spec := "rewriteFeeds", unfollowed := true, recurses := true, named := ["unicode/utf8.first", "unicode/utf8.acceptRanges"], apart := false, laid := [("unicode/utf8.acceptRanges", laid_unicode_utf8_acceptRanges), ("unicode/utf8.first", laid_unicode_utf8_first)] }
def RewriteFeedsSaid : Prop := rewriteFeedsRow.holds Tryd.pinned (OpenSpec.ofChange rewriteFeedsSpec)

/-- ITS FALSE NEIGHBOUR: 'it returns false'. Refute it at one input. -/
def rewriteFeedsWrong : ChangeSpec := { name := "rewriteFeeds", fn := fun _ => fun
  | [d1, d2, d3, d4] => { results := [.lit (.bool false)], args := [d1, d2, d3, d4] }
  | _ => none }
def RewriteFeedsWrongFalsely : Prop := rewriteFeedsRow.holds Tryd.pinned (OpenSpec.ofChange rewriteFeedsWrong)

/-- 'pentaglotlaw07.RewriteContexts': WHATEVER THE INPUT: true; the input reads as it did. -/
def rewriteContextsSpec : ChangeSpec := { name := "rewriteContexts", fn := fun _ => fun
  | [d1, d2, d3] => { results := [.lit (.bool true)], args := [d1, d2, d3] }
  | _ => none }
def rewriteContextsRow : OpenClaim := { program := "ytjcihlpjlpackaadoor", sum := "fe7561da2750da7b5eb21db9e16fa998caa651d45a228150c8c6463d72f97e34", func := "pentaglot/pentaglotlaw07.RewriteContexts", spec := "rewriteContexts", unfollowed := true, recurses := true, named := ["unicode/utf8.first", "unicode/utf8.acceptRanges"], apart := false, laid := [("unicode/utf8.acceptRanges", laid_unicode_utf8_acceptRanges), ("unicode/utf8.first", laid_unicode_utf8_first)] }
def RewriteContextsSaid : Prop := rewriteContextsRow.holds Tryd.pinned (OpenSpec.ofChange rewriteContextsSpec)

/-- ITS FALSE NEIGHBOUR: 'it returns false'. Refute it at one input. -/
def rewriteContextsWrong : ChangeSpec := { name := "rewriteContexts", fn := fun _ => fun
  | [d1, d2, d3] => { results := [.lit (.bool false)], args := [d1, d2, d3] }
  | _ => none }
def RewriteContextsWrongFalsely : Prop := rewriteContextsRow.holds Tryd.pinned (OpenSpec.ofChange rewriteContextsWrong)

/-- 'pentaglotlaw07.RewriteCommute': WHATEVER THE INPUT: true; the input reads as it did. -/
def rewriteCommuteSpec : ChangeSpec := { name := "rewriteCommute", fn := fun _ => fun
  | [d1, d2, d3, d4] => { results := [.lit (.bool true)], args := [d1, d2, d3, d4] }
  | _ => none }
def rewriteCommuteRow : OpenClaim := { program := "ytjcihlpjlpackaadoor", sum := "fe7561da2750da7b5eb21db9e16fa998caa651d45a228150c8c6463d72f97e34", func := "pentaglot/pentaglotlaw07.RewriteCommute", spec := "rewriteCommute", unfollowed := true, recurses := true, named := ["unicode/utf8.first", "unicode/utf8.acceptRanges"], apart := false, laid := [("unicode/utf8.acceptRanges", laid_unicode_utf8_acceptRanges), ("unicode/utf8.first", laid_unicode_utf8_first)] }
def RewriteCommuteSaid : Prop := rewriteCommuteRow.holds Tryd.pinned (OpenSpec.ofChange rewriteCommuteSpec)

/-- ITS FALSE NEIGHBOUR: 'it returns false'. Refute it at one input. -/
def rewriteCommuteWrong : ChangeSpec := { name := "rewriteCommute", fn := fun _ => fun
  | [d1, d2, d3, d4] => { results := [.lit (.bool false)], args := [d1, d2, d3, d4] }
  | _ => none }
def RewriteCommuteWrongFalsely : Prop := rewriteCommuteRow.holds Tryd.pinned (OpenSpec.ofChange rewriteCommuteWrong)

/- THE SECOND FORM. 'bulk': how many values and letters a reading holds, each counted each time it is reached (what is shared counts as often as it is met; a slice's spare places count too). A statement '..UptoSaid' is the law's where the arguments, and the package variables that the reading takes, are together of bulk at most 1048576: NARROWER than '..Said'. Prove '..Said' where nothing that the law and all that it calls make is longer than what came in: it says more and counts as full. Else prove '..UptoSaid'. A law counts once. -/
mutual
def uptoBulk {H : Type} : DataW H → Nat
  | .lit (.string bytes) => bytes.length + 1
  | .lit _ => 1
  | .nil => 1
  | .ptr d => uptoBulk d + 1
  | .slice elems spare => uptoBulkAll elems + uptoBulkAll spare + 1
  | .agg parts => uptoBulkAll parts + 1
  | .iface _ d => uptoBulk d + 1
  | .map entries => uptoBulkEntries entries + 1
  | .held _ => 1
def uptoBulkAll {H : Type} : List (DataW H) → Nat
  | [] => 0
  | d :: r => uptoBulk d + uptoBulkAll r
def uptoBulkEntries {H : Type} : List (Lit × DataW H) → Nat
  | [] => 0
  | x :: r => uptoBulkEntry x + uptoBulkEntries r
def uptoBulkEntry {H : Type} : Lit × DataW H → Nat
  | (.string bytes, d) => bytes.length + uptoBulk d + 1
  | (_, d) => uptoBulk d + 1
 end
def uptoSmall : (H : Type) → List (DataW H) → Bool := fun _ ds => decide (uptoBulkAll ds ≤ 1048576)
def OpenSpec.upto (s : _root_.Go.ChangeSpec) : _root_.Go.OpenSpec := { _root_.Go.OpenSpec.ofChange s with cond := some uptoSmall }

/-- 'pentaglotlaw07.RewriteValid', WHERE WHAT IT READS IS OF BULK AT MOST 1048576: true; the input reads as it did. -/
def rewriteValidUptoRow : OpenClaim := { program := "ytjcihlpjlpackaadoor", sum := "fe7561da2750da7b5eb21db9e16fa998caa651d45a228150c8c6463d72f97e34", func := "pentaglot/pentaglotlaw07.RewriteValid", spec := "rewriteValid", unfollowed := true, recurses := true, named := ["unicode/utf8.first", "unicode/utf8.acceptRanges"], apart := false, laid := [("unicode/utf8.acceptRanges", laid_unicode_utf8_acceptRanges), ("unicode/utf8.first", laid_unicode_utf8_first)], narrowed := true }
def RewriteValidUptoSaid : Prop := rewriteValidUptoRow.holds Tryd.pinned (OpenSpec.upto rewriteValidSpec)

/-- 'pentaglotlaw07.RewriteSites', WHERE WHAT IT READS IS OF BULK AT MOST 1048576: true; the input reads as it did. -/
def rewriteSitesUptoRow : OpenClaim := { program := "ytjcihlpjlpackaadoor", sum := "fe7561da2750da7b5eb21db9e16fa998caa651d45a228150c8c6463d72f97e34", func := "pentaglot/pentaglotlaw07.RewriteSites", spec := "rewriteSites", unfollowed := true, recurses := true, named := ["unicode/utf8.first", "unicode/utf8.acceptRanges"], apart := false, laid := [("unicode/utf8.acceptRanges", laid_unicode_utf8_acceptRanges), ("unicode/utf8.first", laid_unicode_utf8_first)], narrowed := true }
def RewriteSitesUptoSaid : Prop := rewriteSitesUptoRow.holds Tryd.pinned (OpenSpec.upto rewriteSitesSpec)

/-- 'pentaglotlaw07.RewriteApply', WHERE WHAT IT READS IS OF BULK AT MOST 1048576: true; the input reads as it did. -/
def rewriteApplyUptoRow : OpenClaim := { program := "ytjcihlpjlpackaadoor", sum := "fe7561da2750da7b5eb21db9e16fa998caa651d45a228150c8c6463d72f97e34", func := "pentaglot/pentaglotlaw07.RewriteApply", spec := "rewriteApply", unfollowed := true, recurses := true, named := ["unicode/utf8.first", "unicode/utf8.acceptRanges"], apart := false, laid := [("unicode/utf8.acceptRanges", laid_unicode_utf8_acceptRanges), ("unicode/utf8.first", laid_unicode_utf8_first)], narrowed := true }
def RewriteApplyUptoSaid : Prop := rewriteApplyUptoRow.holds Tryd.pinned (OpenSpec.upto rewriteApplySpec)

/-- 'pentaglotlaw07.RewriteReplaces', WHERE WHAT IT READS IS OF BULK AT MOST 1048576: true; the input reads as it did. -/
def rewriteReplacesUptoRow : OpenClaim := { program := "ytjcihlpjlpackaadoor", sum := "fe7561da2750da7b5eb21db9e16fa998caa651d45a228150c8c6463d72f97e34", func := "pentaglot/pentaglotlaw07.RewriteReplaces", spec := "rewriteReplaces", unfollowed := true, recurses := true, named := ["unicode/utf8.first", "unicode/utf8.acceptRanges"], apart := false, laid := [("unicode/utf8.acceptRanges", laid_unicode_utf8_acceptRanges), ("unicode/utf8.first", laid_unicode_utf8_first)], narrowed := true }
def RewriteReplacesUptoSaid : Prop := rewriteReplacesUptoRow.holds Tryd.pinned (OpenSpec.upto rewriteReplacesSpec)

/-- 'pentaglotlaw07.RewriteCascade', WHERE WHAT IT READS IS OF BULK AT MOST 1048576: true; the input reads as it did. -/
def rewriteCascadeUptoRow : OpenClaim := { program := "ytjcihlpjlpackaadoor", sum := "fe7561da2750da7b5eb21db9e16fa998caa651d45a228150c8c6463d72f97e34", func := "pentaglot/pentaglotlaw07.RewriteCascade", spec := "rewriteCascade", unfollowed := true, recurses := true, named := ["unicode/utf8.first", "unicode/utf8.acceptRanges"], apart := false, laid := [("unicode/utf8.acceptRanges", laid_unicode_utf8_acceptRanges), ("unicode/utf8.first", laid_unicode_utf8_first)], narrowed := true }
def RewriteCascadeUptoSaid : Prop := rewriteCascadeUptoRow.holds Tryd.pinned (OpenSpec.upto rewriteCascadeSpec)

/-- 'pentaglotlaw07.RewriteTrace', WHERE WHAT IT READS IS OF BULK AT MOST 1048576: true; the input reads as it did. -/
def rewriteTraceUptoRow : OpenClaim := { program := "ytjcihlpjlpackaadoor", sum := "fe7561da2750da7b5eb21db9e16fa998caa651d45a228150c8c6463d72f97e34", func := "pentaglot/pentaglotlaw07.RewriteTrace", spec := "rewriteTrace", unfollowed := true, recurses := true, named := ["unicode/utf8.first", "unicode/utf8.acceptRanges"], apart := false, laid := [("unicode/utf8.acceptRanges", laid_unicode_utf8_acceptRanges), ("unicode/utf8.first", laid_unicode_utf8_first)], narrowed := true }
def RewriteTraceUptoSaid : Prop := rewriteTraceUptoRow.holds Tryd.pinned (OpenSpec.upto rewriteTraceSpec)

/-- 'pentaglotlaw07.RewriteFeeds', WHERE WHAT IT READS IS OF BULK AT MOST 1048576: true; the input reads as it did. -/
def rewriteFeedsUptoRow : OpenClaim := { program := "ytjcihlpjlpackaadoor", sum := "fe7561da2750da7b5eb21db9e16fa998caa651d45a228150c8c6463d72f97e34", func := "pentaglot/pentaglotlaw07.RewriteFeeds", spec := "rewriteFeeds", unfollowed := true, recurses := true, named := ["unicode/utf8.first", "unicode/utf8.acceptRanges"], apart := false, laid := [("unicode/utf8.acceptRanges", laid_unicode_utf8_acceptRanges), ("unicode/utf8.first", laid_unicode_utf8_first)], narrowed := true }
def RewriteFeedsUptoSaid : Prop := rewriteFeedsUptoRow.holds Tryd.pinned (OpenSpec.upto rewriteFeedsSpec)

/-- 'pentaglotlaw07.RewriteContexts', WHERE WHAT IT READS IS OF BULK AT MOST 1048576: true; the input reads as it did. -/
def rewriteContextsUptoRow : OpenClaim := { program := "ytjcihlpjlpackaadoor", sum := "fe7561da2750da7b5eb21db9e16fa998caa651d45a228150c8c6463d72f97e34", func := "pentaglot/pentaglotlaw07.RewriteContexts", spec := "rewriteContexts", unfollowed := true, recurses := true, named := ["unicode/utf8.first", "unicode/utf8.acceptRanges"], apart := false, laid := [("unicode/utf8.acceptRanges", laid_unicode_utf8_acceptRanges), ("unicode/utf8.first", laid_unicode_utf8_first)], narrowed := true }
def RewriteContextsUptoSaid : Prop := rewriteContextsUptoRow.holds Tryd.pinned (OpenSpec.upto rewriteContextsSpec)

/-- 'pentaglotlaw07.RewriteCommute', WHERE WHAT IT READS IS OF BULK AT MOST 1048576: true; the input reads as it did. -/
def rewriteCommuteUptoRow : OpenClaim := { program := "ytjcihlpjlpackaadoor", sum := "fe7561da2750da7b5eb21db9e16fa998caa651d45a228150c8c6463d72f97e34", func := "pentaglot/pentaglotlaw07.RewriteCommute", spec := "rewriteCommute", unfollowed := true, recurses := true, named := ["unicode/utf8.first", "unicode/utf8.acceptRanges"], apart := false, laid := [("unicode/utf8.acceptRanges", laid_unicode_utf8_acceptRanges), ("unicode/utf8.first", laid_unicode_utf8_first)], narrowed := true }
def RewriteCommuteUptoSaid : Prop := rewriteCommuteUptoRow.holds Tryd.pinned (OpenSpec.upto rewriteCommuteSpec)

end Rows
end Go.Proofs.YtjcihlpjlpackaaDoor
