/-
  DERIVED. GIVEN WITH THE SEED: THE CARDS: each row of YtnelkblhplellaaDoorRows.lean that lists a variable, with what it lists TIED to the program's text (the seventh form; the later family's looks); each row that meets fmt, with fmt's text TOLD by the authors' own Lean function (tested against real Go, not proved from fmt's source: count such statements apart). THE CARD IS WHAT COUNTS. Prove the row's statement (the work); the ties are given (YtnelkblhplellaaDoorTie.lean); close each card by the builder's one call (the guide's Derived/Test/ToyasCard.lean, 'card_holds'). Laid BY PROGRAM, IN A SANDBOX (cutbox-door.mjs). By AI agents, Wed Nov 11 2026. No macro, syntax, notation, axiom, sorry.
-/
import Derived.Test.YtnelkblhplellaaDoorRows
import GoSem.ClaimSeven
namespace Go.Proofs.YtnelkblhplellaaDoor
namespace Rows

/-- THE TIED CARD OF 'pentaglotlaw13.SyllableValid'. -/
def syllableValidCard : Claim7 := { stood := { row := syllableValidRow, standIns := [], harness := (true, "7d45892ba3d48981edf0370deae9fb03ef9ea57be6a35e69101956a55a03bd5b"), looks := false }, kinds := [], alts := [], laidByText := true, laidKinds := [.data, .pinned], laidTests := true, laidLooks := .later }
def SyllableValidCardSaid : Prop := Claim7.holds Tryd.pinned (.plain (OpenSpec.ofChange syllableValidSpec)) syllableValidCard

/-- THE TIED CARD OF 'pentaglotlaw13.SyllableNuclei'. -/
def syllableNucleiCard : Claim7 := { stood := { row := syllableNucleiRow, standIns := [], harness := (true, "7d45892ba3d48981edf0370deae9fb03ef9ea57be6a35e69101956a55a03bd5b"), looks := false }, kinds := [], alts := [], laidByText := true, laidKinds := [.data, .pinned], laidTests := true, laidLooks := .later }
def SyllableNucleiCardSaid : Prop := Claim7.holds Tryd.pinned (.plain (OpenSpec.ofChange syllableNucleiSpec)) syllableNucleiCard

/-- THE TIED CARD OF 'pentaglotlaw13.SyllableOnset'. -/
def syllableOnsetCard : Claim7 := { stood := { row := syllableOnsetRow, standIns := [], harness := (true, "7d45892ba3d48981edf0370deae9fb03ef9ea57be6a35e69101956a55a03bd5b"), looks := false }, kinds := [], alts := [], laidByText := true, laidKinds := [.data, .pinned], laidTests := true, laidLooks := .later }
def SyllableOnsetCardSaid : Prop := Claim7.holds Tryd.pinned (.plain (OpenSpec.ofChange syllableOnsetSpec)) syllableOnsetCard

/-- THE TIED CARD OF 'pentaglotlaw13.SyllableMore'. -/
def syllableMoreCard : Claim7 := { stood := { row := syllableMoreRow, standIns := [], harness := (true, "7d45892ba3d48981edf0370deae9fb03ef9ea57be6a35e69101956a55a03bd5b"), looks := false }, kinds := [], alts := [], laidByText := true, laidKinds := [.data, .pinned], laidTests := true, laidLooks := .later }
def SyllableMoreCardSaid : Prop := Claim7.holds Tryd.pinned (.plain (OpenSpec.ofChange syllableMoreSpec)) syllableMoreCard

/-- THE TIED CARD OF 'pentaglotlaw13.SyllableSplit'. -/
def syllableSplitCard : Claim7 := { stood := { row := syllableSplitRow, standIns := [], harness := (true, "7d45892ba3d48981edf0370deae9fb03ef9ea57be6a35e69101956a55a03bd5b"), looks := false }, kinds := [], alts := [], laidByText := true, laidKinds := [.data, .pinned], laidTests := true, laidLooks := .later }
def SyllableSplitCardSaid : Prop := Claim7.holds Tryd.pinned (.plain (OpenSpec.ofChange syllableSplitSpec)) syllableSplitCard

/-- THE TIED CARD OF 'pentaglotlaw13.SyllableJoins'. -/
def syllableJoinsCard : Claim7 := { stood := { row := syllableJoinsRow, standIns := [], harness := (true, "7d45892ba3d48981edf0370deae9fb03ef9ea57be6a35e69101956a55a03bd5b"), looks := false }, kinds := [], alts := [], laidByText := true, laidKinds := [.data, .pinned], laidTests := true, laidLooks := .later }
def SyllableJoinsCardSaid : Prop := Claim7.holds Tryd.pinned (.plain (OpenSpec.ofChange syllableJoinsSpec)) syllableJoinsCard

/-- THE TIED CARD OF 'pentaglotlaw13.SyllableMaximal'. -/
def syllableMaximalCard : Claim7 := { stood := { row := syllableMaximalRow, standIns := [], harness := (true, "7d45892ba3d48981edf0370deae9fb03ef9ea57be6a35e69101956a55a03bd5b"), looks := false }, kinds := [], alts := [], laidByText := true, laidKinds := [.data, .pinned], laidTests := true, laidLooks := .later }
def SyllableMaximalCardSaid : Prop := Claim7.holds Tryd.pinned (.plain (OpenSpec.ofChange syllableMaximalSpec)) syllableMaximalCard

/-- THE TIED CARD OF 'pentaglotlaw13.SyllablePoints'. -/
def syllablePointsCard : Claim7 := { stood := { row := syllablePointsRow, standIns := [], harness := (true, "7d45892ba3d48981edf0370deae9fb03ef9ea57be6a35e69101956a55a03bd5b"), looks := false }, kinds := [], alts := [], laidByText := true, laidKinds := [.data, .pinned], laidTests := true, laidLooks := .later }
def SyllablePointsCardSaid : Prop := Claim7.holds Tryd.pinned (.plain (OpenSpec.ofChange syllablePointsSpec)) syllablePointsCard

/-- THE TIED CARD OF 'pentaglotlaw13.SyllableHeavy'. -/
def syllableHeavyCard : Claim7 := { stood := { row := syllableHeavyRow, standIns := [], harness := (true, "7d45892ba3d48981edf0370deae9fb03ef9ea57be6a35e69101956a55a03bd5b"), looks := false }, kinds := [], alts := [], laidByText := true, laidKinds := [.data, .pinned], laidTests := true, laidLooks := .later }
def SyllableHeavyCardSaid : Prop := Claim7.holds Tryd.pinned (.plain (OpenSpec.ofChange syllableHeavySpec)) syllableHeavyCard

/-- THE TIED CARD OF 'pentaglotlaw13.SyllableHyphenate'. -/
def syllableHyphenateCard : Claim7 := { stood := { row := syllableHyphenateRow, standIns := [], harness := (true, "7d45892ba3d48981edf0370deae9fb03ef9ea57be6a35e69101956a55a03bd5b"), looks := false }, kinds := [], alts := [], laidByText := true, laidKinds := [.data, .pinned], laidTests := true, laidLooks := .later }
def SyllableHyphenateCardSaid : Prop := Claim7.holds Tryd.pinned (.plain (OpenSpec.ofChange syllableHyphenateSpec)) syllableHyphenateCard

/-- THE TIED CARD OF 'pentaglotlaw13.SyllableRejoin'. -/
def syllableRejoinCard : Claim7 := { stood := { row := syllableRejoinRow, standIns := [], harness := (true, "7d45892ba3d48981edf0370deae9fb03ef9ea57be6a35e69101956a55a03bd5b"), looks := false }, kinds := [], alts := [], laidByText := true, laidKinds := [.data, .pinned], laidTests := true, laidLooks := .later }
def SyllableRejoinCardSaid : Prop := Claim7.holds Tryd.pinned (.plain (OpenSpec.ofChange syllableRejoinSpec)) syllableRejoinCard

/-- THE SECOND FORM's CARD OF 'pentaglotlaw13.SyllableValid'. -/
def syllableValidUptoCard : Claim7 := { stood := { row := syllableValidUptoRow, standIns := [], harness := (true, "7d45892ba3d48981edf0370deae9fb03ef9ea57be6a35e69101956a55a03bd5b"), looks := false }, kinds := [], alts := [], laidByText := true, laidKinds := [.data, .pinned], laidTests := true, laidLooks := .later }
def SyllableValidUptoCardSaid : Prop := Claim7.holds Tryd.pinned (.plain (OpenSpec.upto syllableValidSpec)) syllableValidUptoCard

/-- THE SECOND FORM's CARD OF 'pentaglotlaw13.SyllableNuclei'. -/
def syllableNucleiUptoCard : Claim7 := { stood := { row := syllableNucleiUptoRow, standIns := [], harness := (true, "7d45892ba3d48981edf0370deae9fb03ef9ea57be6a35e69101956a55a03bd5b"), looks := false }, kinds := [], alts := [], laidByText := true, laidKinds := [.data, .pinned], laidTests := true, laidLooks := .later }
def SyllableNucleiUptoCardSaid : Prop := Claim7.holds Tryd.pinned (.plain (OpenSpec.upto syllableNucleiSpec)) syllableNucleiUptoCard

/-- THE SECOND FORM's CARD OF 'pentaglotlaw13.SyllableOnset'. -/
def syllableOnsetUptoCard : Claim7 := { stood := { row := syllableOnsetUptoRow, standIns := [], harness := (true, "7d45892ba3d48981edf0370deae9fb03ef9ea57be6a35e69101956a55a03bd5b"), looks := false }, kinds := [], alts := [], laidByText := true, laidKinds := [.data, .pinned], laidTests := true, laidLooks := .later }
def SyllableOnsetUptoCardSaid : Prop := Claim7.holds Tryd.pinned (.plain (OpenSpec.upto syllableOnsetSpec)) syllableOnsetUptoCard

/-- THE SECOND FORM's CARD OF 'pentaglotlaw13.SyllableMore'. -/
def syllableMoreUptoCard : Claim7 := { stood := { row := syllableMoreUptoRow, standIns := [], harness := (true, "7d45892ba3d48981edf0370deae9fb03ef9ea57be6a35e69101956a55a03bd5b"), looks := false }, kinds := [], alts := [], laidByText := true, laidKinds := [.data, .pinned], laidTests := true, laidLooks := .later }
def SyllableMoreUptoCardSaid : Prop := Claim7.holds Tryd.pinned (.plain (OpenSpec.upto syllableMoreSpec)) syllableMoreUptoCard

/-- THE SECOND FORM's CARD OF 'pentaglotlaw13.SyllableSplit'. -/
def syllableSplitUptoCard : Claim7 := { stood := { row := syllableSplitUptoRow, standIns := [], harness := (true, "7d45892ba3d48981edf0370deae9fb03ef9ea57be6a35e69101956a55a03bd5b"), looks := false }, kinds := [], alts := [], laidByText := true, laidKinds := [.data, .pinned], laidTests := true, laidLooks := .later }
def SyllableSplitUptoCardSaid : Prop := Claim7.holds Tryd.pinned (.plain (OpenSpec.upto syllableSplitSpec)) syllableSplitUptoCard

/-- THE SECOND FORM's CARD OF 'pentaglotlaw13.SyllableJoins'. -/
def syllableJoinsUptoCard : Claim7 := { stood := { row := syllableJoinsUptoRow, standIns := [], harness := (true, "7d45892ba3d48981edf0370deae9fb03ef9ea57be6a35e69101956a55a03bd5b"), looks := false }, kinds := [], alts := [], laidByText := true, laidKinds := [.data, .pinned], laidTests := true, laidLooks := .later }
def SyllableJoinsUptoCardSaid : Prop := Claim7.holds Tryd.pinned (.plain (OpenSpec.upto syllableJoinsSpec)) syllableJoinsUptoCard

/-- THE SECOND FORM's CARD OF 'pentaglotlaw13.SyllableMaximal'. -/
def syllableMaximalUptoCard : Claim7 := { stood := { row := syllableMaximalUptoRow, standIns := [], harness := (true, "7d45892ba3d48981edf0370deae9fb03ef9ea57be6a35e69101956a55a03bd5b"), looks := false }, kinds := [], alts := [], laidByText := true, laidKinds := [.data, .pinned], laidTests := true, laidLooks := .later }
def SyllableMaximalUptoCardSaid : Prop := Claim7.holds Tryd.pinned (.plain (OpenSpec.upto syllableMaximalSpec)) syllableMaximalUptoCard

/-- THE SECOND FORM's CARD OF 'pentaglotlaw13.SyllablePoints'. -/
def syllablePointsUptoCard : Claim7 := { stood := { row := syllablePointsUptoRow, standIns := [], harness := (true, "7d45892ba3d48981edf0370deae9fb03ef9ea57be6a35e69101956a55a03bd5b"), looks := false }, kinds := [], alts := [], laidByText := true, laidKinds := [.data, .pinned], laidTests := true, laidLooks := .later }
def SyllablePointsUptoCardSaid : Prop := Claim7.holds Tryd.pinned (.plain (OpenSpec.upto syllablePointsSpec)) syllablePointsUptoCard

/-- THE SECOND FORM's CARD OF 'pentaglotlaw13.SyllableHeavy'. -/
def syllableHeavyUptoCard : Claim7 := { stood := { row := syllableHeavyUptoRow, standIns := [], harness := (true, "7d45892ba3d48981edf0370deae9fb03ef9ea57be6a35e69101956a55a03bd5b"), looks := false }, kinds := [], alts := [], laidByText := true, laidKinds := [.data, .pinned], laidTests := true, laidLooks := .later }
def SyllableHeavyUptoCardSaid : Prop := Claim7.holds Tryd.pinned (.plain (OpenSpec.upto syllableHeavySpec)) syllableHeavyUptoCard

/-- THE SECOND FORM's CARD OF 'pentaglotlaw13.SyllableHyphenate'. -/
def syllableHyphenateUptoCard : Claim7 := { stood := { row := syllableHyphenateUptoRow, standIns := [], harness := (true, "7d45892ba3d48981edf0370deae9fb03ef9ea57be6a35e69101956a55a03bd5b"), looks := false }, kinds := [], alts := [], laidByText := true, laidKinds := [.data, .pinned], laidTests := true, laidLooks := .later }
def SyllableHyphenateUptoCardSaid : Prop := Claim7.holds Tryd.pinned (.plain (OpenSpec.upto syllableHyphenateSpec)) syllableHyphenateUptoCard

/-- THE SECOND FORM's CARD OF 'pentaglotlaw13.SyllableRejoin'. -/
def syllableRejoinUptoCard : Claim7 := { stood := { row := syllableRejoinUptoRow, standIns := [], harness := (true, "7d45892ba3d48981edf0370deae9fb03ef9ea57be6a35e69101956a55a03bd5b"), looks := false }, kinds := [], alts := [], laidByText := true, laidKinds := [.data, .pinned], laidTests := true, laidLooks := .later }
def SyllableRejoinUptoCardSaid : Prop := Claim7.holds Tryd.pinned (.plain (OpenSpec.upto syllableRejoinSpec)) syllableRejoinUptoCard
end Rows
end Go.Proofs.YtnelkblhplellaaDoor
