/-
  DERIVED. GIVEN WITH THE SEED: THE CARDS: each row of YtmmdhmlbbajjiaaDoorRows.lean that lists a variable, with what it lists TIED to the program's text (the seventh form; the later family's looks); each row that meets fmt, with fmt's text TOLD by the authors' own Lean function (tested against real Go, not proved from fmt's source: count such statements apart). THE CARD IS WHAT COUNTS. Prove the row's statement (the work); the ties are given (YtmmdhmlbbajjiaaDoorTie.lean); close each card by the builder's one call (the guide's Derived/Test/ToyasCard.lean, 'card_holds'). Laid BY PROGRAM, IN A SANDBOX (cutbox-door.mjs). By AI agents, Wed Nov 11 2026. No macro, syntax, notation, axiom, sorry.
-/
import Derived.Test.YtmmdhmlbbajjiaaDoorRows
import GoSem.ClaimSeven
namespace Go.Proofs.YtmmdhmlbbajjiaaDoor
namespace Rows

/-- THE TIED CARD OF 'pentaglotlaw14.CliticValid'. -/
def cliticValidCard : Claim7 := { stood := { row := cliticValidRow, standIns := [], harness := (true, "34442ef47723b91f59c0bef6cedc0c159241f0f0bc265cf24b2768ecdf10e5ab"), looks := false }, kinds := [], alts := [], laidByText := true, laidKinds := [.data, .pinned], laidTests := true, laidLooks := .later }
def CliticValidCardSaid : Prop := Claim7.holds Tryd.pinned (.plain (OpenSpec.ofChange cliticValidSpec)) cliticValidCard

/-- THE TIED CARD OF 'pentaglotlaw14.CliticAttaches'. -/
def cliticAttachesCard : Claim7 := { stood := { row := cliticAttachesRow, standIns := [], harness := (true, "34442ef47723b91f59c0bef6cedc0c159241f0f0bc265cf24b2768ecdf10e5ab"), looks := false }, kinds := [], alts := [], laidByText := true, laidKinds := [.data, .pinned], laidTests := true, laidLooks := .later }
def CliticAttachesCardSaid : Prop := Claim7.holds Tryd.pinned (.plain (OpenSpec.ofChange cliticAttachesSpec)) cliticAttachesCard

/-- THE TIED CARD OF 'pentaglotlaw14.CliticSplits'. -/
def cliticSplitsCard : Claim7 := { stood := { row := cliticSplitsRow, standIns := [], harness := (true, "34442ef47723b91f59c0bef6cedc0c159241f0f0bc265cf24b2768ecdf10e5ab"), looks := false }, kinds := [], alts := [], laidByText := true, laidKinds := [.data, .pinned], laidTests := true, laidLooks := .later }
def CliticSplitsCardSaid : Prop := Claim7.holds Tryd.pinned (.plain (OpenSpec.ofChange cliticSplitsSpec)) cliticSplitsCard

/-- THE TIED CARD OF 'pentaglotlaw14.CliticPlain'. -/
def cliticPlainCard : Claim7 := { stood := { row := cliticPlainRow, standIns := [], harness := (true, "34442ef47723b91f59c0bef6cedc0c159241f0f0bc265cf24b2768ecdf10e5ab"), looks := false }, kinds := [], alts := [], laidByText := true, laidKinds := [.data, .pinned], laidTests := true, laidLooks := .later }
def CliticPlainCardSaid : Prop := Claim7.holds Tryd.pinned (.plain (OpenSpec.ofChange cliticPlainSpec)) cliticPlainCard

/-- THE TIED CARD OF 'pentaglotlaw14.CliticUnaffected'. -/
def cliticUnaffectedCard : Claim7 := { stood := { row := cliticUnaffectedRow, standIns := [], harness := (true, "34442ef47723b91f59c0bef6cedc0c159241f0f0bc265cf24b2768ecdf10e5ab"), looks := false }, kinds := [], alts := [], laidByText := true, laidKinds := [.data, .pinned], laidTests := true, laidLooks := .later }
def CliticUnaffectedCardSaid : Prop := Claim7.holds Tryd.pinned (.plain (OpenSpec.ofChange cliticUnaffectedSpec)) cliticUnaffectedCard

/-- THE TIED CARD OF 'pentaglotlaw14.CliticSegments'. -/
def cliticSegmentsCard : Claim7 := { stood := { row := cliticSegmentsRow, standIns := [], harness := (true, "34442ef47723b91f59c0bef6cedc0c159241f0f0bc265cf24b2768ecdf10e5ab"), looks := false }, kinds := [], alts := [], laidByText := true, laidKinds := [.data, .pinned], laidTests := true, laidLooks := .later }
def CliticSegmentsCardSaid : Prop := Claim7.holds Tryd.pinned (.plain (OpenSpec.ofChange cliticSegmentsSpec)) cliticSegmentsCard

/-- THE TIED CARD OF 'pentaglotlaw14.CliticFinds'. -/
def cliticFindsCard : Claim7 := { stood := { row := cliticFindsRow, standIns := [], harness := (true, "34442ef47723b91f59c0bef6cedc0c159241f0f0bc265cf24b2768ecdf10e5ab"), looks := false }, kinds := [], alts := [], laidByText := true, laidKinds := [.data, .pinned], laidTests := true, laidLooks := .later }
def CliticFindsCardSaid : Prop := Claim7.holds Tryd.pinned (.plain (OpenSpec.ofChange cliticFindsSpec)) cliticFindsCard

/-- THE TIED CARD OF 'pentaglotlaw14.CliticConcatenates'. -/
def cliticConcatenatesCard : Claim7 := { stood := { row := cliticConcatenatesRow, standIns := [], harness := (true, "34442ef47723b91f59c0bef6cedc0c159241f0f0bc265cf24b2768ecdf10e5ab"), looks := false }, kinds := [], alts := [], laidByText := true, laidKinds := [.data, .pinned], laidTests := true, laidLooks := .later }
def CliticConcatenatesCardSaid : Prop := Claim7.holds Tryd.pinned (.plain (OpenSpec.ofChange cliticConcatenatesSpec)) cliticConcatenatesCard

/-- THE SECOND FORM's CARD OF 'pentaglotlaw14.CliticValid'. -/
def cliticValidUptoCard : Claim7 := { stood := { row := cliticValidUptoRow, standIns := [], harness := (true, "34442ef47723b91f59c0bef6cedc0c159241f0f0bc265cf24b2768ecdf10e5ab"), looks := false }, kinds := [], alts := [], laidByText := true, laidKinds := [.data, .pinned], laidTests := true, laidLooks := .later }
def CliticValidUptoCardSaid : Prop := Claim7.holds Tryd.pinned (.plain (OpenSpec.upto cliticValidSpec)) cliticValidUptoCard

/-- THE SECOND FORM's CARD OF 'pentaglotlaw14.CliticAttaches'. -/
def cliticAttachesUptoCard : Claim7 := { stood := { row := cliticAttachesUptoRow, standIns := [], harness := (true, "34442ef47723b91f59c0bef6cedc0c159241f0f0bc265cf24b2768ecdf10e5ab"), looks := false }, kinds := [], alts := [], laidByText := true, laidKinds := [.data, .pinned], laidTests := true, laidLooks := .later }
def CliticAttachesUptoCardSaid : Prop := Claim7.holds Tryd.pinned (.plain (OpenSpec.upto cliticAttachesSpec)) cliticAttachesUptoCard

/-- THE SECOND FORM's CARD OF 'pentaglotlaw14.CliticSplits'. -/
def cliticSplitsUptoCard : Claim7 := { stood := { row := cliticSplitsUptoRow, standIns := [], harness := (true, "34442ef47723b91f59c0bef6cedc0c159241f0f0bc265cf24b2768ecdf10e5ab"), looks := false }, kinds := [], alts := [], laidByText := true, laidKinds := [.data, .pinned], laidTests := true, laidLooks := .later }
def CliticSplitsUptoCardSaid : Prop := Claim7.holds Tryd.pinned (.plain (OpenSpec.upto cliticSplitsSpec)) cliticSplitsUptoCard

/-- THE SECOND FORM's CARD OF 'pentaglotlaw14.CliticPlain'. -/
def cliticPlainUptoCard : Claim7 := { stood := { row := cliticPlainUptoRow, standIns := [], harness := (true, "34442ef47723b91f59c0bef6cedc0c159241f0f0bc265cf24b2768ecdf10e5ab"), looks := false }, kinds := [], alts := [], laidByText := true, laidKinds := [.data, .pinned], laidTests := true, laidLooks := .later }
def CliticPlainUptoCardSaid : Prop := Claim7.holds Tryd.pinned (.plain (OpenSpec.upto cliticPlainSpec)) cliticPlainUptoCard

/-- THE SECOND FORM's CARD OF 'pentaglotlaw14.CliticUnaffected'. -/
def cliticUnaffectedUptoCard : Claim7 := { stood := { row := cliticUnaffectedUptoRow, standIns := [], harness := (true, "34442ef47723b91f59c0bef6cedc0c159241f0f0bc265cf24b2768ecdf10e5ab"), looks := false }, kinds := [], alts := [], laidByText := true, laidKinds := [.data, .pinned], laidTests := true, laidLooks := .later }
def CliticUnaffectedUptoCardSaid : Prop := Claim7.holds Tryd.pinned (.plain (OpenSpec.upto cliticUnaffectedSpec)) cliticUnaffectedUptoCard

/-- THE SECOND FORM's CARD OF 'pentaglotlaw14.CliticSegments'. -/
def cliticSegmentsUptoCard : Claim7 := { stood := { row := cliticSegmentsUptoRow, standIns := [], harness := (true, "34442ef47723b91f59c0bef6cedc0c159241f0f0bc265cf24b2768ecdf10e5ab"), looks := false }, kinds := [], alts := [], laidByText := true, laidKinds := [.data, .pinned], laidTests := true, laidLooks := .later }
def CliticSegmentsUptoCardSaid : Prop := Claim7.holds Tryd.pinned (.plain (OpenSpec.upto cliticSegmentsSpec)) cliticSegmentsUptoCard

/-- THE SECOND FORM's CARD OF 'pentaglotlaw14.CliticFinds'. -/
def cliticFindsUptoCard : Claim7 := { stood := { row := cliticFindsUptoRow, standIns := [], harness := (true, "34442ef47723b91f59c0bef6cedc0c159241f0f0bc265cf24b2768ecdf10e5ab"), looks := false }, kinds := [], alts := [], laidByText := true, laidKinds := [.data, .pinned], laidTests := true, laidLooks := .later }
def CliticFindsUptoCardSaid : Prop := Claim7.holds Tryd.pinned (.plain (OpenSpec.upto cliticFindsSpec)) cliticFindsUptoCard

/-- THE SECOND FORM's CARD OF 'pentaglotlaw14.CliticConcatenates'. -/
def cliticConcatenatesUptoCard : Claim7 := { stood := { row := cliticConcatenatesUptoRow, standIns := [], harness := (true, "34442ef47723b91f59c0bef6cedc0c159241f0f0bc265cf24b2768ecdf10e5ab"), looks := false }, kinds := [], alts := [], laidByText := true, laidKinds := [.data, .pinned], laidTests := true, laidLooks := .later }
def CliticConcatenatesUptoCardSaid : Prop := Claim7.holds Tryd.pinned (.plain (OpenSpec.upto cliticConcatenatesSpec)) cliticConcatenatesUptoCard
end Rows
end Go.Proofs.YtmmdhmlbbajjiaaDoor
