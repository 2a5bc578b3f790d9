/-
  DERIVED. GIVEN WITH THE SEED: THE CARDS: each row of YtkhohgmmgipfbaaDoorRows.lean that lists a variable, with what it lists TIED to the program's text (the seventh form; the later family's looks); each row that meets fmt, with fmt's text TOLD by the authors' own Lean function (tested against real Go, not proved from fmt's source: count such statements apart). THE CARD IS WHAT COUNTS. Prove the row's statement (the work); the ties are given (YtkhohgmmgipfbaaDoorTie.lean); close each card by the builder's one call (the guide's Derived/Test/ToyasCard.lean, 'card_holds'). Laid BY PROGRAM, IN A SANDBOX (cutbox-door.mjs). By AI agents, Wed Nov 11 2026. No macro, syntax, notation, axiom, sorry.
-/
import Derived.Test.YtkhohgmmgipfbaaDoorRows
import GoSem.ClaimSeven
namespace Go.Proofs.YtkhohgmmgipfbaaDoor
namespace Rows

/-- THE TIED CARD OF 'pentaglotlaw44.LinebreakLines'. -/
def linebreakLinesCard : Claim7 := { stood := { row := linebreakLinesRow, standIns := [], harness := (true, "82ec3c3c938e79430de10babe249d2ee41afbcb39affe59b14cc9c1becde28b4"), looks := false }, kinds := [], alts := [], laidByText := true, laidKinds := [.data, .pinned], laidTests := true, laidLooks := .later }
def LinebreakLinesCardSaid : Prop := Claim7.holds Tryd.pinned (.plain (OpenSpec.ofChange linebreakLinesSpec)) linebreakLinesCard

/-- THE TIED CARD OF 'pentaglotlaw44.LinebreakGreedy'. -/
def linebreakGreedyCard : Claim7 := { stood := { row := linebreakGreedyRow, standIns := [], harness := (true, "82ec3c3c938e79430de10babe249d2ee41afbcb39affe59b14cc9c1becde28b4"), looks := false }, kinds := [], alts := [], laidByText := true, laidKinds := [.data, .pinned], laidTests := true, laidLooks := .later }
def LinebreakGreedyCardSaid : Prop := Claim7.holds Tryd.pinned (.plain (OpenSpec.ofChange linebreakGreedySpec)) linebreakGreedyCard

/-- THE TIED CARD OF 'pentaglotlaw44.LinebreakPenalty'. -/
def linebreakPenaltyCard : Claim7 := { stood := { row := linebreakPenaltyRow, standIns := [], harness := (true, "82ec3c3c938e79430de10babe249d2ee41afbcb39affe59b14cc9c1becde28b4"), looks := false }, kinds := [], alts := [], laidByText := true, laidKinds := [.data, .pinned], laidTests := true, laidLooks := .later }
def LinebreakPenaltyCardSaid : Prop := Claim7.holds Tryd.pinned (.plain (OpenSpec.ofChange linebreakPenaltySpec)) linebreakPenaltyCard

/-- THE TIED CARD OF 'pentaglotlaw44.LinebreakWider'. -/
def linebreakWiderCard : Claim7 := { stood := { row := linebreakWiderRow, standIns := [], harness := (true, "82ec3c3c938e79430de10babe249d2ee41afbcb39affe59b14cc9c1becde28b4"), looks := false }, kinds := [], alts := [], laidByText := true, laidKinds := [.data, .pinned], laidTests := true, laidLooks := .later }
def LinebreakWiderCardSaid : Prop := Claim7.holds Tryd.pinned (.plain (OpenSpec.ofChange linebreakWiderSpec)) linebreakWiderCard

/-- THE TIED CARD OF 'pentaglotlaw44.LinebreakSmallest'. -/
def linebreakSmallestCard : Claim7 := { stood := { row := linebreakSmallestRow, standIns := [], harness := (true, "82ec3c3c938e79430de10babe249d2ee41afbcb39affe59b14cc9c1becde28b4"), looks := false }, kinds := [], alts := [], laidByText := true, laidKinds := [.data, .pinned], laidTests := true, laidLooks := .later }
def LinebreakSmallestCardSaid : Prop := Claim7.holds Tryd.pinned (.plain (OpenSpec.ofChange linebreakSmallestSpec)) linebreakSmallestCard

/-- THE TIED CARD OF 'pentaglotlaw44.LinebreakText'. -/
def linebreakTextCard : Claim7 := { stood := { row := linebreakTextRow, standIns := [], harness := (true, "82ec3c3c938e79430de10babe249d2ee41afbcb39affe59b14cc9c1becde28b4"), looks := false }, kinds := [], alts := [], laidByText := true, laidKinds := [.data, .pinned], laidTests := true, laidLooks := .later }
def LinebreakTextCardSaid : Prop := Claim7.holds Tryd.pinned (.plain (OpenSpec.ofChange linebreakTextSpec)) linebreakTextCard

/-- THE TIED CARD OF 'pentaglotlaw44.LinebreakCost'. -/
def linebreakCostCard : Claim7 := { stood := { row := linebreakCostRow, standIns := [], harness := (true, "82ec3c3c938e79430de10babe249d2ee41afbcb39affe59b14cc9c1becde28b4"), looks := false }, kinds := [], alts := [], laidByText := true, laidKinds := [.data, .pinned], laidTests := true, laidLooks := .later }
def LinebreakCostCardSaid : Prop := Claim7.holds Tryd.pinned (.plain (OpenSpec.ofChange linebreakCostSpec)) linebreakCostCard

/-- THE TIED CARD OF 'pentaglotlaw44.LinebreakDivides'. -/
def linebreakDividesCard : Claim7 := { stood := { row := linebreakDividesRow, standIns := [], harness := (true, "82ec3c3c938e79430de10babe249d2ee41afbcb39affe59b14cc9c1becde28b4"), looks := false }, kinds := [], alts := [], laidByText := true, laidKinds := [.data, .pinned], laidTests := true, laidLooks := .later }
def LinebreakDividesCardSaid : Prop := Claim7.holds Tryd.pinned (.plain (OpenSpec.ofChange linebreakDividesSpec)) linebreakDividesCard

/-- THE TIED CARD OF 'pentaglotlaw44.LinebreakOptimal'. -/
def linebreakOptimalCard : Claim7 := { stood := { row := linebreakOptimalRow, standIns := [], harness := (true, "82ec3c3c938e79430de10babe249d2ee41afbcb39affe59b14cc9c1becde28b4"), looks := false }, kinds := [], alts := [], laidByText := true, laidKinds := [.data, .pinned], laidTests := true, laidLooks := .later }
def LinebreakOptimalCardSaid : Prop := Claim7.holds Tryd.pinned (.plain (OpenSpec.ofChange linebreakOptimalSpec)) linebreakOptimalCard

/-- THE SECOND FORM's CARD OF 'pentaglotlaw44.LinebreakLines'. -/
def linebreakLinesUptoCard : Claim7 := { stood := { row := linebreakLinesUptoRow, standIns := [], harness := (true, "82ec3c3c938e79430de10babe249d2ee41afbcb39affe59b14cc9c1becde28b4"), looks := false }, kinds := [], alts := [], laidByText := true, laidKinds := [.data, .pinned], laidTests := true, laidLooks := .later }
def LinebreakLinesUptoCardSaid : Prop := Claim7.holds Tryd.pinned (.plain (OpenSpec.upto linebreakLinesSpec)) linebreakLinesUptoCard

/-- THE SECOND FORM's CARD OF 'pentaglotlaw44.LinebreakGreedy'. -/
def linebreakGreedyUptoCard : Claim7 := { stood := { row := linebreakGreedyUptoRow, standIns := [], harness := (true, "82ec3c3c938e79430de10babe249d2ee41afbcb39affe59b14cc9c1becde28b4"), looks := false }, kinds := [], alts := [], laidByText := true, laidKinds := [.data, .pinned], laidTests := true, laidLooks := .later }
def LinebreakGreedyUptoCardSaid : Prop := Claim7.holds Tryd.pinned (.plain (OpenSpec.upto linebreakGreedySpec)) linebreakGreedyUptoCard

/-- THE SECOND FORM's CARD OF 'pentaglotlaw44.LinebreakPenalty'. -/
def linebreakPenaltyUptoCard : Claim7 := { stood := { row := linebreakPenaltyUptoRow, standIns := [], harness := (true, "82ec3c3c938e79430de10babe249d2ee41afbcb39affe59b14cc9c1becde28b4"), looks := false }, kinds := [], alts := [], laidByText := true, laidKinds := [.data, .pinned], laidTests := true, laidLooks := .later }
def LinebreakPenaltyUptoCardSaid : Prop := Claim7.holds Tryd.pinned (.plain (OpenSpec.upto linebreakPenaltySpec)) linebreakPenaltyUptoCard

/-- THE SECOND FORM's CARD OF 'pentaglotlaw44.LinebreakWider'. -/
def linebreakWiderUptoCard : Claim7 := { stood := { row := linebreakWiderUptoRow, standIns := [], harness := (true, "82ec3c3c938e79430de10babe249d2ee41afbcb39affe59b14cc9c1becde28b4"), looks := false }, kinds := [], alts := [], laidByText := true, laidKinds := [.data, .pinned], laidTests := true, laidLooks := .later }
def LinebreakWiderUptoCardSaid : Prop := Claim7.holds Tryd.pinned (.plain (OpenSpec.upto linebreakWiderSpec)) linebreakWiderUptoCard

/-- THE SECOND FORM's CARD OF 'pentaglotlaw44.LinebreakSmallest'. -/
def linebreakSmallestUptoCard : Claim7 := { stood := { row := linebreakSmallestUptoRow, standIns := [], harness := (true, "82ec3c3c938e79430de10babe249d2ee41afbcb39affe59b14cc9c1becde28b4"), looks := false }, kinds := [], alts := [], laidByText := true, laidKinds := [.data, .pinned], laidTests := true, laidLooks := .later }
def LinebreakSmallestUptoCardSaid : Prop := Claim7.holds Tryd.pinned (.plain (OpenSpec.upto linebreakSmallestSpec)) linebreakSmallestUptoCard

/-- THE SECOND FORM's CARD OF 'pentaglotlaw44.LinebreakText'. -/
def linebreakTextUptoCard : Claim7 := { stood := { row := linebreakTextUptoRow, standIns := [], harness := (true, "82ec3c3c938e79430de10babe249d2ee41afbcb39affe59b14cc9c1becde28b4"), looks := false }, kinds := [], alts := [], laidByText := true, laidKinds := [.data, .pinned], laidTests := true, laidLooks := .later }
def LinebreakTextUptoCardSaid : Prop := Claim7.holds Tryd.pinned (.plain (OpenSpec.upto linebreakTextSpec)) linebreakTextUptoCard

/-- THE SECOND FORM's CARD OF 'pentaglotlaw44.LinebreakCost'. -/
def linebreakCostUptoCard : Claim7 := { stood := { row := linebreakCostUptoRow, standIns := [], harness := (true, "82ec3c3c938e79430de10babe249d2ee41afbcb39affe59b14cc9c1becde28b4"), looks := false }, kinds := [], alts := [], laidByText := true, laidKinds := [.data, .pinned], laidTests := true, laidLooks := .later }
def LinebreakCostUptoCardSaid : Prop := Claim7.holds Tryd.pinned (.plain (OpenSpec.upto linebreakCostSpec)) linebreakCostUptoCard

/-- THE SECOND FORM's CARD OF 'pentaglotlaw44.LinebreakDivides'. -/
def linebreakDividesUptoCard : Claim7 := { stood := { row := linebreakDividesUptoRow, standIns := [], harness := (true, "82ec3c3c938e79430de10babe249d2ee41afbcb39affe59b14cc9c1becde28b4"), looks := false }, kinds := [], alts := [], laidByText := true, laidKinds := [.data, .pinned], laidTests := true, laidLooks := .later }
def LinebreakDividesUptoCardSaid : Prop := Claim7.holds Tryd.pinned (.plain (OpenSpec.upto linebreakDividesSpec)) linebreakDividesUptoCard

/-- THE SECOND FORM's CARD OF 'pentaglotlaw44.LinebreakOptimal'. -/
def linebreakOptimalUptoCard : Claim7 := { stood := { row := linebreakOptimalUptoRow, standIns := [], harness := (true, "82ec3c3c938e79430de10babe249d2ee41afbcb39affe59b14cc9c1becde28b4"), looks := false }, kinds := [], alts := [], laidByText := true, laidKinds := [.data, .pinned], laidTests := true, laidLooks := .later }
def LinebreakOptimalUptoCardSaid : Prop := Claim7.holds Tryd.pinned (.plain (OpenSpec.upto linebreakOptimalSpec)) linebreakOptimalUptoCard
end Rows
end Go.Proofs.YtkhohgmmgipfbaaDoor
