/-
  DERIVED. GIVEN WITH THE SEED: THE CARDS: each row of YtkajkpdilinmgaaDoorRows.lean that lists a variable, with what it lists TIED to the program's text (the seventh form; the later family's looks); each row that meets fmt, with fmt's text TOLD by the authors' own Lean function (tested against real Go, not proved from fmt's source: count such statements apart). THE CARD IS WHAT COUNTS. Prove the row's statement (the work); the ties are given (YtkajkpdilinmgaaDoorTie.lean); close each card by the builder's one call (the guide's Derived/Test/ToyasCard.lean, 'card_holds'). Laid BY PROGRAM, IN A SANDBOX (cutbox-door.mjs). By AI agents, Wed Nov 11 2026. No macro, syntax, notation, axiom, sorry.
-/
import Derived.Test.YtkajkpdilinmgaaDoorRows
import GoSem.ClaimSeven
namespace Go.Proofs.YtkajkpdilinmgaaDoor
namespace Rows

/-- THE TIED CARD OF 'pentaglotlaw06.PatternAcceptors'. -/
def patternAcceptorsCard : Claim7 := { stood := { row := patternAcceptorsRow, standIns := [], harness := (true, "d53cfbf2788491479fe5ab14ce71b688a8a4ebed2ecb15df5f33579d2250ebc3"), looks := false }, kinds := [], alts := [], laidByText := true, laidKinds := [.data, .pinned], laidTests := true, laidLooks := .later }
def PatternAcceptorsCardSaid : Prop := Claim7.holds Tryd.pinned (.plain (OpenSpec.ofChange patternAcceptorsSpec)) patternAcceptorsCard

/-- THE TIED CARD OF 'pentaglotlaw06.PatternAgrees'. -/
def patternAgreesCard : Claim7 := { stood := { row := patternAgreesRow, standIns := [], harness := (true, "d53cfbf2788491479fe5ab14ce71b688a8a4ebed2ecb15df5f33579d2250ebc3"), looks := false }, kinds := [], alts := [], laidByText := true, laidKinds := [.data, .pinned], laidTests := true, laidLooks := .later }
def PatternAgreesCardSaid : Prop := Claim7.holds Tryd.pinned (.plain (OpenSpec.ofChange patternAgreesSpec)) patternAgreesCard

/-- THE TIED CARD OF 'pentaglotlaw06.PatternRuns'. -/
def patternRunsCard : Claim7 := { stood := { row := patternRunsRow, standIns := [], harness := (true, "d53cfbf2788491479fe5ab14ce71b688a8a4ebed2ecb15df5f33579d2250ebc3"), looks := false }, kinds := [], alts := [], laidByText := true, laidKinds := [.data, .pinned], laidTests := true, laidLooks := .later }
def PatternRunsCardSaid : Prop := Claim7.holds Tryd.pinned (.plain (OpenSpec.ofChange patternRunsSpec)) patternRunsCard

/-- THE TIED CARD OF 'pentaglotlaw06.PatternMinimal'. -/
def patternMinimalCard : Claim7 := { stood := { row := patternMinimalRow, standIns := [], harness := (true, "d53cfbf2788491479fe5ab14ce71b688a8a4ebed2ecb15df5f33579d2250ebc3"), looks := false }, kinds := [], alts := [], laidByText := true, laidKinds := [.data, .pinned], laidTests := true, laidLooks := .later }
def PatternMinimalCardSaid : Prop := Claim7.holds Tryd.pinned (.plain (OpenSpec.ofChange patternMinimalSpec)) patternMinimalCard

/-- THE TIED CARD OF 'pentaglotlaw06.PatternDiffers'. -/
def patternDiffersCard : Claim7 := { stood := { row := patternDiffersRow, standIns := [], harness := (true, "d53cfbf2788491479fe5ab14ce71b688a8a4ebed2ecb15df5f33579d2250ebc3"), looks := false }, kinds := [], alts := [], laidByText := true, laidKinds := [.data, .pinned], laidTests := true, laidLooks := .later }
def PatternDiffersCardSaid : Prop := Claim7.holds Tryd.pinned (.plain (OpenSpec.ofChange patternDiffersSpec)) patternDiffersCard

/-- THE TIED CARD OF 'pentaglotlaw06.PatternFirst'. -/
def patternFirstCard : Claim7 := { stood := { row := patternFirstRow, standIns := [], harness := (true, "d53cfbf2788491479fe5ab14ce71b688a8a4ebed2ecb15df5f33579d2250ebc3"), looks := false }, kinds := [], alts := [], laidByText := true, laidKinds := [.data, .pinned], laidTests := true, laidLooks := .later }
def PatternFirstCardSaid : Prop := Claim7.holds Tryd.pinned (.plain (OpenSpec.ofChange patternFirstSpec)) patternFirstCard

/-- THE TIED CARD OF 'pentaglotlaw06.PatternEquivalence'. -/
def patternEquivalenceCard : Claim7 := { stood := { row := patternEquivalenceRow, standIns := [], harness := (true, "d53cfbf2788491479fe5ab14ce71b688a8a4ebed2ecb15df5f33579d2250ebc3"), looks := false }, kinds := [], alts := [], laidByText := true, laidKinds := [.data, .pinned], laidTests := true, laidLooks := .later }
def PatternEquivalenceCardSaid : Prop := Claim7.holds Tryd.pinned (.plain (OpenSpec.ofChange patternEquivalenceSpec)) patternEquivalenceCard

/-- THE TIED CARD OF 'pentaglotlaw06.PatternDivides'. -/
def patternDividesCard : Claim7 := { stood := { row := patternDividesRow, standIns := [], harness := (true, "d53cfbf2788491479fe5ab14ce71b688a8a4ebed2ecb15df5f33579d2250ebc3"), looks := false }, kinds := [], alts := [], laidByText := true, laidKinds := [.data, .pinned], laidTests := true, laidLooks := .later }
def PatternDividesCardSaid : Prop := Claim7.holds Tryd.pinned (.plain (OpenSpec.ofChange patternDividesSpec)) patternDividesCard

/-- THE TIED CARD OF 'pentaglotlaw06.PatternMatches'. -/
def patternMatchesCard : Claim7 := { stood := { row := patternMatchesRow, standIns := [], harness := (true, "d53cfbf2788491479fe5ab14ce71b688a8a4ebed2ecb15df5f33579d2250ebc3"), looks := false }, kinds := [], alts := [], laidByText := true, laidKinds := [.data, .pinned], laidTests := true, laidLooks := .later }
def PatternMatchesCardSaid : Prop := Claim7.holds Tryd.pinned (.plain (OpenSpec.ofChange patternMatchesSpec)) patternMatchesCard

/-- THE SECOND FORM's CARD OF 'pentaglotlaw06.PatternAcceptors'. -/
def patternAcceptorsUptoCard : Claim7 := { stood := { row := patternAcceptorsUptoRow, standIns := [], harness := (true, "d53cfbf2788491479fe5ab14ce71b688a8a4ebed2ecb15df5f33579d2250ebc3"), looks := false }, kinds := [], alts := [], laidByText := true, laidKinds := [.data, .pinned], laidTests := true, laidLooks := .later }
def PatternAcceptorsUptoCardSaid : Prop := Claim7.holds Tryd.pinned (.plain (OpenSpec.upto patternAcceptorsSpec)) patternAcceptorsUptoCard

/-- THE SECOND FORM's CARD OF 'pentaglotlaw06.PatternAgrees'. -/
def patternAgreesUptoCard : Claim7 := { stood := { row := patternAgreesUptoRow, standIns := [], harness := (true, "d53cfbf2788491479fe5ab14ce71b688a8a4ebed2ecb15df5f33579d2250ebc3"), looks := false }, kinds := [], alts := [], laidByText := true, laidKinds := [.data, .pinned], laidTests := true, laidLooks := .later }
def PatternAgreesUptoCardSaid : Prop := Claim7.holds Tryd.pinned (.plain (OpenSpec.upto patternAgreesSpec)) patternAgreesUptoCard

/-- THE SECOND FORM's CARD OF 'pentaglotlaw06.PatternRuns'. -/
def patternRunsUptoCard : Claim7 := { stood := { row := patternRunsUptoRow, standIns := [], harness := (true, "d53cfbf2788491479fe5ab14ce71b688a8a4ebed2ecb15df5f33579d2250ebc3"), looks := false }, kinds := [], alts := [], laidByText := true, laidKinds := [.data, .pinned], laidTests := true, laidLooks := .later }
def PatternRunsUptoCardSaid : Prop := Claim7.holds Tryd.pinned (.plain (OpenSpec.upto patternRunsSpec)) patternRunsUptoCard

/-- THE SECOND FORM's CARD OF 'pentaglotlaw06.PatternMinimal'. -/
def patternMinimalUptoCard : Claim7 := { stood := { row := patternMinimalUptoRow, standIns := [], harness := (true, "d53cfbf2788491479fe5ab14ce71b688a8a4ebed2ecb15df5f33579d2250ebc3"), looks := false }, kinds := [], alts := [], laidByText := true, laidKinds := [.data, .pinned], laidTests := true, laidLooks := .later }
def PatternMinimalUptoCardSaid : Prop := Claim7.holds Tryd.pinned (.plain (OpenSpec.upto patternMinimalSpec)) patternMinimalUptoCard

/-- THE SECOND FORM's CARD OF 'pentaglotlaw06.PatternDiffers'. -/
def patternDiffersUptoCard : Claim7 := { stood := { row := patternDiffersUptoRow, standIns := [], harness := (true, "d53cfbf2788491479fe5ab14ce71b688a8a4ebed2ecb15df5f33579d2250ebc3"), looks := false }, kinds := [], alts := [], laidByText := true, laidKinds := [.data, .pinned], laidTests := true, laidLooks := .later }
def PatternDiffersUptoCardSaid : Prop := Claim7.holds Tryd.pinned (.plain (OpenSpec.upto patternDiffersSpec)) patternDiffersUptoCard

/-- THE SECOND FORM's CARD OF 'pentaglotlaw06.PatternFirst'. -/
def patternFirstUptoCard : Claim7 := { stood := { row := patternFirstUptoRow, standIns := [], harness := (true, "d53cfbf2788491479fe5ab14ce71b688a8a4ebed2ecb15df5f33579d2250ebc3"), looks := false }, kinds := [], alts := [], laidByText := true, laidKinds := [.data, .pinned], laidTests := true, laidLooks := .later }
def PatternFirstUptoCardSaid : Prop := Claim7.holds Tryd.pinned (.plain (OpenSpec.upto patternFirstSpec)) patternFirstUptoCard

/-- THE SECOND FORM's CARD OF 'pentaglotlaw06.PatternEquivalence'. -/
def patternEquivalenceUptoCard : Claim7 := { stood := { row := patternEquivalenceUptoRow, standIns := [], harness := (true, "d53cfbf2788491479fe5ab14ce71b688a8a4ebed2ecb15df5f33579d2250ebc3"), looks := false }, kinds := [], alts := [], laidByText := true, laidKinds := [.data, .pinned], laidTests := true, laidLooks := .later }
def PatternEquivalenceUptoCardSaid : Prop := Claim7.holds Tryd.pinned (.plain (OpenSpec.upto patternEquivalenceSpec)) patternEquivalenceUptoCard

/-- THE SECOND FORM's CARD OF 'pentaglotlaw06.PatternDivides'. -/
def patternDividesUptoCard : Claim7 := { stood := { row := patternDividesUptoRow, standIns := [], harness := (true, "d53cfbf2788491479fe5ab14ce71b688a8a4ebed2ecb15df5f33579d2250ebc3"), looks := false }, kinds := [], alts := [], laidByText := true, laidKinds := [.data, .pinned], laidTests := true, laidLooks := .later }
def PatternDividesUptoCardSaid : Prop := Claim7.holds Tryd.pinned (.plain (OpenSpec.upto patternDividesSpec)) patternDividesUptoCard

/-- THE SECOND FORM's CARD OF 'pentaglotlaw06.PatternMatches'. -/
def patternMatchesUptoCard : Claim7 := { stood := { row := patternMatchesUptoRow, standIns := [], harness := (true, "d53cfbf2788491479fe5ab14ce71b688a8a4ebed2ecb15df5f33579d2250ebc3"), looks := false }, kinds := [], alts := [], laidByText := true, laidKinds := [.data, .pinned], laidTests := true, laidLooks := .later }
def PatternMatchesUptoCardSaid : Prop := Claim7.holds Tryd.pinned (.plain (OpenSpec.upto patternMatchesSpec)) patternMatchesUptoCard
end Rows
end Go.Proofs.YtkajkpdilinmgaaDoor
