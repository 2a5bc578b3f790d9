/-
  DERIVED. GIVEN WITH THE SEED: THE CARDS: each row of YteodhhepbnehhaaGreatDoorRows.lean that lists a variable, with what it lists TIED to the program's text (the seventh form; the later family's looks); each row that meets fmt, with fmt's text TOLD by the authors' own Lean function (tested against real Go, not proved from fmt's source: count such statements apart). THE CARD IS WHAT COUNTS. Prove the row's statement (the work); the ties are given (YteodhhepbnehhaaGreatDoorTie.lean); close each card by the builder's one call (the guide's Derived/Test/ToyasCard.lean, 'card_holds'). Laid BY PROGRAM, IN A SANDBOX (cutbox-door.mjs). By AI agents, Wed Nov 11 2026. No macro, syntax, notation, axiom, sorry.
-/
import Derived.Test.YteodhhepbnehhaaGreatDoorRows
import GoSem.ClaimSeven
namespace Go.Proofs.YteodhhepbnehhaaGreatDoor
namespace Rows

/-- THE TIED CARD OF 'pentaglotlaw50.JustifySpreads'. -/
def justifySpreadsCard : Claim7 := { stood := { row := justifySpreadsRow, standIns := [], harness := (true, "6370d11b7e3c510f60a94d878c1ac50c8a0ac3d9609f7f999b61a5907ec5c0ea"), looks := false }, kinds := [], alts := [], laidByText := true, laidKinds := [.data, .pinned], laidTests := true, laidLooks := .later }
def JustifySpreadsCardSaid : Prop := Claim7.holds Tryz.pinned (.plain (OpenSpec.ofChange justifySpreadsSpec)) justifySpreadsCard

/-- THE TIED CARD OF 'pentaglotlaw50.JustifyGaps'. -/
def justifyGapsCard : Claim7 := { stood := { row := justifyGapsRow, standIns := [], harness := (true, "6370d11b7e3c510f60a94d878c1ac50c8a0ac3d9609f7f999b61a5907ec5c0ea"), looks := false }, kinds := [], alts := [], laidByText := true, laidKinds := [.data, .pinned], laidTests := true, laidLooks := .later }
def JustifyGapsCardSaid : Prop := Claim7.holds Tryz.pinned (.plain (OpenSpec.ofChange justifyGapsSpec)) justifyGapsCard

/-- THE TIED CARD OF 'pentaglotlaw50.JustifyParagraphs'. -/
def justifyParagraphsCard : Claim7 := { stood := { row := justifyParagraphsRow, standIns := [], harness := (true, "6370d11b7e3c510f60a94d878c1ac50c8a0ac3d9609f7f999b61a5907ec5c0ea"), looks := false }, kinds := [], alts := [], laidByText := true, laidKinds := [.data, .pinned], laidTests := true, laidLooks := .later }
def JustifyParagraphsCardSaid : Prop := Claim7.holds Tryz.pinned (.plain (OpenSpec.ofChange justifyParagraphsSpec)) justifyParagraphsCard

/-- THE TIED CARD OF 'pentaglotlaw50.JustifyOptimum'. -/
def justifyOptimumCard : Claim7 := { stood := { row := justifyOptimumRow, standIns := [], harness := (true, "6370d11b7e3c510f60a94d878c1ac50c8a0ac3d9609f7f999b61a5907ec5c0ea"), looks := false }, kinds := [], alts := [], laidByText := true, laidKinds := [.data, .pinned], laidTests := true, laidLooks := .later }
def JustifyOptimumCardSaid : Prop := Claim7.holds Tryz.pinned (.plain (OpenSpec.ofChange justifyOptimumSpec)) justifyOptimumCard

/-- THE TIED CARD OF 'pentaglotlaw50.JustifyPages'. -/
def justifyPagesCard : Claim7 := { stood := { row := justifyPagesRow, standIns := [], harness := (true, "6370d11b7e3c510f60a94d878c1ac50c8a0ac3d9609f7f999b61a5907ec5c0ea"), looks := false }, kinds := [], alts := [], laidByText := true, laidKinds := [.data, .pinned], laidTests := true, laidLooks := .later }
def JustifyPagesCardSaid : Prop := Claim7.holds Tryz.pinned (.plain (OpenSpec.ofChange justifyPagesSpec)) justifyPagesCard

/-- THE TIED CARD OF 'pentaglotlaw50.JustifyWidths'. -/
def justifyWidthsCard : Claim7 := { stood := { row := justifyWidthsRow, standIns := [], harness := (true, "6370d11b7e3c510f60a94d878c1ac50c8a0ac3d9609f7f999b61a5907ec5c0ea"), looks := false }, kinds := [], alts := [], laidByText := true, laidKinds := [.data, .pinned], laidTests := true, laidLooks := .later }
def JustifyWidthsCardSaid : Prop := Claim7.holds Tryz.pinned (.plain (OpenSpec.ofChange justifyWidthsSpec)) justifyWidthsCard

/-- THE TIED CARD OF 'pentaglotlaw50.JustifyReturns'. -/
def justifyReturnsCard : Claim7 := { stood := { row := justifyReturnsRow, standIns := [], harness := (true, "6370d11b7e3c510f60a94d878c1ac50c8a0ac3d9609f7f999b61a5907ec5c0ea"), looks := false }, kinds := [], alts := [], laidByText := true, laidKinds := [.data, .pinned], laidTests := true, laidLooks := .later }
def JustifyReturnsCardSaid : Prop := Claim7.holds Tryz.pinned (.plain (OpenSpec.ofChange justifyReturnsSpec)) justifyReturnsCard

/-- THE TIED CARD OF 'pentaglotlaw50.JustifyPlain'. -/
def justifyPlainCard : Claim7 := { stood := { row := justifyPlainRow, standIns := [], harness := (true, "6370d11b7e3c510f60a94d878c1ac50c8a0ac3d9609f7f999b61a5907ec5c0ea"), looks := false }, kinds := [], alts := [], laidByText := true, laidKinds := [.data, .pinned], laidTests := true, laidLooks := .later }
def JustifyPlainCardSaid : Prop := Claim7.holds Tryz.pinned (.plain (OpenSpec.ofChange justifyPlainSpec)) justifyPlainCard

/-- THE TIED CARD OF 'pentaglotlaw50.JustifySheets'. -/
def justifySheetsCard : Claim7 := { stood := { row := justifySheetsRow, standIns := [], harness := (true, "6370d11b7e3c510f60a94d878c1ac50c8a0ac3d9609f7f999b61a5907ec5c0ea"), looks := false }, kinds := [], alts := [], laidByText := true, laidKinds := [.data, .pinned], laidTests := true, laidLooks := .later }
def JustifySheetsCardSaid : Prop := Claim7.holds Tryz.pinned (.plain (OpenSpec.ofChange justifySheetsSpec)) justifySheetsCard

/-- THE SECOND FORM's CARD OF 'pentaglotlaw50.JustifySpreads'. -/
def justifySpreadsUptoCard : Claim7 := { stood := { row := justifySpreadsUptoRow, standIns := [], harness := (true, "6370d11b7e3c510f60a94d878c1ac50c8a0ac3d9609f7f999b61a5907ec5c0ea"), looks := false }, kinds := [], alts := [], laidByText := true, laidKinds := [.data, .pinned], laidTests := true, laidLooks := .later }
def JustifySpreadsUptoCardSaid : Prop := Claim7.holds Tryz.pinned (.plain (OpenSpec.upto justifySpreadsSpec)) justifySpreadsUptoCard

/-- THE SECOND FORM's CARD OF 'pentaglotlaw50.JustifyGaps'. -/
def justifyGapsUptoCard : Claim7 := { stood := { row := justifyGapsUptoRow, standIns := [], harness := (true, "6370d11b7e3c510f60a94d878c1ac50c8a0ac3d9609f7f999b61a5907ec5c0ea"), looks := false }, kinds := [], alts := [], laidByText := true, laidKinds := [.data, .pinned], laidTests := true, laidLooks := .later }
def JustifyGapsUptoCardSaid : Prop := Claim7.holds Tryz.pinned (.plain (OpenSpec.upto justifyGapsSpec)) justifyGapsUptoCard

/-- THE SECOND FORM's CARD OF 'pentaglotlaw50.JustifyParagraphs'. -/
def justifyParagraphsUptoCard : Claim7 := { stood := { row := justifyParagraphsUptoRow, standIns := [], harness := (true, "6370d11b7e3c510f60a94d878c1ac50c8a0ac3d9609f7f999b61a5907ec5c0ea"), looks := false }, kinds := [], alts := [], laidByText := true, laidKinds := [.data, .pinned], laidTests := true, laidLooks := .later }
def JustifyParagraphsUptoCardSaid : Prop := Claim7.holds Tryz.pinned (.plain (OpenSpec.upto justifyParagraphsSpec)) justifyParagraphsUptoCard

/-- THE SECOND FORM's CARD OF 'pentaglotlaw50.JustifyOptimum'. -/
def justifyOptimumUptoCard : Claim7 := { stood := { row := justifyOptimumUptoRow, standIns := [], harness := (true, "6370d11b7e3c510f60a94d878c1ac50c8a0ac3d9609f7f999b61a5907ec5c0ea"), looks := false }, kinds := [], alts := [], laidByText := true, laidKinds := [.data, .pinned], laidTests := true, laidLooks := .later }
def JustifyOptimumUptoCardSaid : Prop := Claim7.holds Tryz.pinned (.plain (OpenSpec.upto justifyOptimumSpec)) justifyOptimumUptoCard

/-- THE SECOND FORM's CARD OF 'pentaglotlaw50.JustifyPages'. -/
def justifyPagesUptoCard : Claim7 := { stood := { row := justifyPagesUptoRow, standIns := [], harness := (true, "6370d11b7e3c510f60a94d878c1ac50c8a0ac3d9609f7f999b61a5907ec5c0ea"), looks := false }, kinds := [], alts := [], laidByText := true, laidKinds := [.data, .pinned], laidTests := true, laidLooks := .later }
def JustifyPagesUptoCardSaid : Prop := Claim7.holds Tryz.pinned (.plain (OpenSpec.upto justifyPagesSpec)) justifyPagesUptoCard

/-- THE SECOND FORM's CARD OF 'pentaglotlaw50.JustifyWidths'. -/
def justifyWidthsUptoCard : Claim7 := { stood := { row := justifyWidthsUptoRow, standIns := [], harness := (true, "6370d11b7e3c510f60a94d878c1ac50c8a0ac3d9609f7f999b61a5907ec5c0ea"), looks := false }, kinds := [], alts := [], laidByText := true, laidKinds := [.data, .pinned], laidTests := true, laidLooks := .later }
def JustifyWidthsUptoCardSaid : Prop := Claim7.holds Tryz.pinned (.plain (OpenSpec.upto justifyWidthsSpec)) justifyWidthsUptoCard

/-- THE SECOND FORM's CARD OF 'pentaglotlaw50.JustifyReturns'. -/
def justifyReturnsUptoCard : Claim7 := { stood := { row := justifyReturnsUptoRow, standIns := [], harness := (true, "6370d11b7e3c510f60a94d878c1ac50c8a0ac3d9609f7f999b61a5907ec5c0ea"), looks := false }, kinds := [], alts := [], laidByText := true, laidKinds := [.data, .pinned], laidTests := true, laidLooks := .later }
def JustifyReturnsUptoCardSaid : Prop := Claim7.holds Tryz.pinned (.plain (OpenSpec.upto justifyReturnsSpec)) justifyReturnsUptoCard

/-- THE SECOND FORM's CARD OF 'pentaglotlaw50.JustifyPlain'. -/
def justifyPlainUptoCard : Claim7 := { stood := { row := justifyPlainUptoRow, standIns := [], harness := (true, "6370d11b7e3c510f60a94d878c1ac50c8a0ac3d9609f7f999b61a5907ec5c0ea"), looks := false }, kinds := [], alts := [], laidByText := true, laidKinds := [.data, .pinned], laidTests := true, laidLooks := .later }
def JustifyPlainUptoCardSaid : Prop := Claim7.holds Tryz.pinned (.plain (OpenSpec.upto justifyPlainSpec)) justifyPlainUptoCard

/-- THE SECOND FORM's CARD OF 'pentaglotlaw50.JustifySheets'. -/
def justifySheetsUptoCard : Claim7 := { stood := { row := justifySheetsUptoRow, standIns := [], harness := (true, "6370d11b7e3c510f60a94d878c1ac50c8a0ac3d9609f7f999b61a5907ec5c0ea"), looks := false }, kinds := [], alts := [], laidByText := true, laidKinds := [.data, .pinned], laidTests := true, laidLooks := .later }
def JustifySheetsUptoCardSaid : Prop := Claim7.holds Tryz.pinned (.plain (OpenSpec.upto justifySheetsSpec)) justifySheetsUptoCard
end Rows
end Go.Proofs.YteodhhepbnehhaaGreatDoor
