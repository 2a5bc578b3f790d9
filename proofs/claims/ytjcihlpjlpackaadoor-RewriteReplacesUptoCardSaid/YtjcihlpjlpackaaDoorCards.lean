/-
  DERIVED. GIVEN WITH THE SEED: THE CARDS: each row of YtjcihlpjlpackaaDoorRows.lean that lists a variable, with what it lists TIED to the program's text (the seventh form; the later family's looks); each row that meets fmt, with fmt's text TOLD by the authors' own Lean function (tested against real Go, not proved from fmt's source: count such statements apart). THE CARD IS WHAT COUNTS. Prove the row's statement (the work); the ties are given (YtjcihlpjlpackaaDoorTie.lean); close each card by the builder's one call (the guide's Derived/Test/ToyasCard.lean, 'card_holds'). Laid BY PROGRAM, IN A SANDBOX (cutbox-door.mjs). By AI agents, Wed Nov 11 2026. No macro, syntax, notation, axiom, sorry.
-/
import Derived.Test.YtjcihlpjlpackaaDoorRows
import GoSem.ClaimSeven
namespace Go.Proofs.YtjcihlpjlpackaaDoor
namespace Rows

/-- THE TIED CARD OF 'pentaglotlaw07.RewriteValid'. -/
def rewriteValidCard : Claim7 := { stood := { row := rewriteValidRow, standIns := [], harness := (true, "d9b9a7aa6f7718aefaf3feda2d3abfed19d0d44d4196abb94f2877a666bacde9"), looks := false }, kinds := [], alts := [], laidByText := true, laidKinds := [.data, .pinned], laidTests := true, laidLooks := .later }
def RewriteValidCardSaid : Prop := Claim7.holds Tryd.pinned (.plain (OpenSpec.ofChange rewriteValidSpec)) rewriteValidCard

/-- THE TIED CARD OF 'pentaglotlaw07.RewriteSites'. -/
def rewriteSitesCard : Claim7 := { stood := { row := rewriteSitesRow, standIns := [], harness := (true, "d9b9a7aa6f7718aefaf3feda2d3abfed19d0d44d4196abb94f2877a666bacde9"), looks := false }, kinds := [], alts := [], laidByText := true, laidKinds := [.data, .pinned], laidTests := true, laidLooks := .later }
def RewriteSitesCardSaid : Prop := Claim7.holds Tryd.pinned (.plain (OpenSpec.ofChange rewriteSitesSpec)) rewriteSitesCard

/-- THE TIED CARD OF 'pentaglotlaw07.RewriteApply'. -/
def rewriteApplyCard : Claim7 := { stood := { row := rewriteApplyRow, standIns := [], harness := (true, "d9b9a7aa6f7718aefaf3feda2d3abfed19d0d44d4196abb94f2877a666bacde9"), looks := false }, kinds := [], alts := [], laidByText := true, laidKinds := [.data, .pinned], laidTests := true, laidLooks := .later }
def RewriteApplyCardSaid : Prop := Claim7.holds Tryd.pinned (.plain (OpenSpec.ofChange rewriteApplySpec)) rewriteApplyCard

/-- THE TIED CARD OF 'pentaglotlaw07.RewriteReplaces'. -/
def rewriteReplacesCard : Claim7 := { stood := { row := rewriteReplacesRow, standIns := [], harness := (true, "d9b9a7aa6f7718aefaf3feda2d3abfed19d0d44d4196abb94f2877a666bacde9"), looks := false }, kinds := [], alts := [], laidByText := true, laidKinds := [.data, .pinned], laidTests := true, laidLooks := .later }
def RewriteReplacesCardSaid : Prop := Claim7.holds Tryd.pinned (.plain (OpenSpec.ofChange rewriteReplacesSpec)) rewriteReplacesCard

/-- THE TIED CARD OF 'pentaglotlaw07.RewriteCascade'. -/
def rewriteCascadeCard : Claim7 := { stood := { row := rewriteCascadeRow, standIns := [], harness := (true, "d9b9a7aa6f7718aefaf3feda2d3abfed19d0d44d4196abb94f2877a666bacde9"), looks := false }, kinds := [], alts := [], laidByText := true, laidKinds := [.data, .pinned], laidTests := true, laidLooks := .later }
def RewriteCascadeCardSaid : Prop := Claim7.holds Tryd.pinned (.plain (OpenSpec.ofChange rewriteCascadeSpec)) rewriteCascadeCard

/-- THE TIED CARD OF 'pentaglotlaw07.RewriteTrace'. -/
def rewriteTraceCard : Claim7 := { stood := { row := rewriteTraceRow, standIns := [], harness := (true, "d9b9a7aa6f7718aefaf3feda2d3abfed19d0d44d4196abb94f2877a666bacde9"), looks := false }, kinds := [], alts := [], laidByText := true, laidKinds := [.data, .pinned], laidTests := true, laidLooks := .later }
def RewriteTraceCardSaid : Prop := Claim7.holds Tryd.pinned (.plain (OpenSpec.ofChange rewriteTraceSpec)) rewriteTraceCard

/-- THE TIED CARD OF 'pentaglotlaw07.RewriteFeeds'. -/
def rewriteFeedsCard : Claim7 := { stood := { row := rewriteFeedsRow, standIns := [], harness := (true, "d9b9a7aa6f7718aefaf3feda2d3abfed19d0d44d4196abb94f2877a666bacde9"), looks := false }, kinds := [], alts := [], laidByText := true, laidKinds := [.data, .pinned], laidTests := true, laidLooks := .later }
def RewriteFeedsCardSaid : Prop := Claim7.holds Tryd.pinned (.plain (OpenSpec.ofChange rewriteFeedsSpec)) rewriteFeedsCard

/-- THE TIED CARD OF 'pentaglotlaw07.RewriteContexts'. -/
def rewriteContextsCard : Claim7 := { stood := { row := rewriteContextsRow, standIns := [], harness := (true, "d9b9a7aa6f7718aefaf3feda2d3abfed19d0d44d4196abb94f2877a666bacde9"), looks := false }, kinds := [], alts := [], laidByText := true, laidKinds := [.data, .pinned], laidTests := true, laidLooks := .later }
def RewriteContextsCardSaid : Prop := Claim7.holds Tryd.pinned (.plain (OpenSpec.ofChange rewriteContextsSpec)) rewriteContextsCard

/-- THE TIED CARD OF 'pentaglotlaw07.RewriteCommute'. -/
def rewriteCommuteCard : Claim7 := { stood := { row := rewriteCommuteRow, standIns := [], harness := (true, "d9b9a7aa6f7718aefaf3feda2d3abfed19d0d44d4196abb94f2877a666bacde9"), looks := false }, kinds := [], alts := [], laidByText := true, laidKinds := [.data, .pinned], laidTests := true, laidLooks := .later }
def RewriteCommuteCardSaid : Prop := Claim7.holds Tryd.pinned (.plain (OpenSpec.ofChange rewriteCommuteSpec)) rewriteCommuteCard

/-- THE SECOND FORM's CARD OF 'pentaglotlaw07.RewriteValid'. -/
def rewriteValidUptoCard : Claim7 := { stood := { row := rewriteValidUptoRow, standIns := [], harness := (true, "d9b9a7aa6f7718aefaf3feda2d3abfed19d0d44d4196abb94f2877a666bacde9"), looks := false }, kinds := [], alts := [], laidByText := true, laidKinds := [.data, .pinned], laidTests := true, laidLooks := .later }
def RewriteValidUptoCardSaid : Prop := Claim7.holds Tryd.pinned (.plain (OpenSpec.upto rewriteValidSpec)) rewriteValidUptoCard

/-- THE SECOND FORM's CARD OF 'pentaglotlaw07.RewriteSites'. -/
def rewriteSitesUptoCard : Claim7 := { stood := { row := rewriteSitesUptoRow, standIns := [], harness := (true, "d9b9a7aa6f7718aefaf3feda2d3abfed19d0d44d4196abb94f2877a666bacde9"), looks := false }, kinds := [], alts := [], laidByText := true, laidKinds := [.data, .pinned], laidTests := true, laidLooks := .later }
def RewriteSitesUptoCardSaid : Prop := Claim7.holds Tryd.pinned (.plain (OpenSpec.upto rewriteSitesSpec)) rewriteSitesUptoCard

/-- THE SECOND FORM's CARD OF 'pentaglotlaw07.RewriteApply'. -/
def rewriteApplyUptoCard : Claim7 := { stood := { row := rewriteApplyUptoRow, standIns := [], harness := (true, "d9b9a7aa6f7718aefaf3feda2d3abfed19d0d44d4196abb94f2877a666bacde9"), looks := false }, kinds := [], alts := [], laidByText := true, laidKinds := [.data, .pinned], laidTests := true, laidLooks := .later }
def RewriteApplyUptoCardSaid : Prop := Claim7.holds Tryd.pinned (.plain (OpenSpec.upto rewriteApplySpec)) rewriteApplyUptoCard

/-- THE SECOND FORM's CARD OF 'pentaglotlaw07.RewriteReplaces'. -/
def rewriteReplacesUptoCard : Claim7 := { stood := { row := rewriteReplacesUptoRow, standIns := [], harness := (true, "d9b9a7aa6f7718aefaf3feda2d3abfed19d0d44d4196abb94f2877a666bacde9"), looks := false }, kinds := [], alts := [], laidByText := true, laidKinds := [.data, .pinned], laidTests := true, laidLooks := .later }
def RewriteReplacesUptoCardSaid : Prop := Claim7.holds Tryd.pinned (.plain (OpenSpec.upto rewriteReplacesSpec)) rewriteReplacesUptoCard

/-- THE SECOND FORM's CARD OF 'pentaglotlaw07.RewriteCascade'. -/
def rewriteCascadeUptoCard : Claim7 := { stood := { row := rewriteCascadeUptoRow, standIns := [], harness := (true, "d9b9a7aa6f7718aefaf3feda2d3abfed19d0d44d4196abb94f2877a666bacde9"), looks := false }, kinds := [], alts := [], laidByText := true, laidKinds := [.data, .pinned], laidTests := true, laidLooks := .later }
def RewriteCascadeUptoCardSaid : Prop := Claim7.holds Tryd.pinned (.plain (OpenSpec.upto rewriteCascadeSpec)) rewriteCascadeUptoCard

/-- THE SECOND FORM's CARD OF 'pentaglotlaw07.RewriteTrace'. -/
def rewriteTraceUptoCard : Claim7 := { stood := { row := rewriteTraceUptoRow, standIns := [], harness := (true, "d9b9a7aa6f7718aefaf3feda2d3abfed19d0d44d4196abb94f2877a666bacde9"), looks := false }, kinds := [], alts := [], laidByText := true, laidKinds := [.data, .pinned], laidTests := true, laidLooks := .later }
def RewriteTraceUptoCardSaid : Prop := Claim7.holds Tryd.pinned (.plain (OpenSpec.upto rewriteTraceSpec)) rewriteTraceUptoCard

/-- THE SECOND FORM's CARD OF 'pentaglotlaw07.RewriteFeeds'. -/
def rewriteFeedsUptoCard : Claim7 := { stood := { row := rewriteFeedsUptoRow, standIns := [], harness := (true, "d9b9a7aa6f7718aefaf3feda2d3abfed19d0d44d4196abb94f2877a666bacde9"), looks := false }, kinds := [], alts := [], laidByText := true, laidKinds := [.data, .pinned], laidTests := true, laidLooks := .later }
def RewriteFeedsUptoCardSaid : Prop := Claim7.holds Tryd.pinned (.plain (OpenSpec.upto rewriteFeedsSpec)) rewriteFeedsUptoCard

/-- THE SECOND FORM's CARD OF 'pentaglotlaw07.RewriteContexts'. -/
def rewriteContextsUptoCard : Claim7 := { stood := { row := rewriteContextsUptoRow, standIns := [], harness := (true, "d9b9a7aa6f7718aefaf3feda2d3abfed19d0d44d4196abb94f2877a666bacde9"), looks := false }, kinds := [], alts := [], laidByText := true, laidKinds := [.data, .pinned], laidTests := true, laidLooks := .later }
def RewriteContextsUptoCardSaid : Prop := Claim7.holds Tryd.pinned (.plain (OpenSpec.upto rewriteContextsSpec)) rewriteContextsUptoCard

/-- THE SECOND FORM's CARD OF 'pentaglotlaw07.RewriteCommute'. -/
def rewriteCommuteUptoCard : Claim7 := { stood := { row := rewriteCommuteUptoRow, standIns := [], harness := (true, "d9b9a7aa6f7718aefaf3feda2d3abfed19d0d44d4196abb94f2877a666bacde9"), looks := false }, kinds := [], alts := [], laidByText := true, laidKinds := [.data, .pinned], laidTests := true, laidLooks := .later }
def RewriteCommuteUptoCardSaid : Prop := Claim7.holds Tryd.pinned (.plain (OpenSpec.upto rewriteCommuteSpec)) rewriteCommuteUptoCard
end Rows
end Go.Proofs.YtjcihlpjlpackaaDoor
