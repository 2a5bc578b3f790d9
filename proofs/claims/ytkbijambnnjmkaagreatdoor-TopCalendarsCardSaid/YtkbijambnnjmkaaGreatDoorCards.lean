/-
  DERIVED. GIVEN WITH THE SEED: THE CARDS: each row of YtkbijambnnjmkaaGreatDoorRows.lean that lists a variable, with what it lists TIED to the program's text (the seventh form; the later family's looks); each row that meets fmt, with fmt's text TOLD by the authors' own Lean function (tested against real Go, not proved from fmt's source: count such statements apart). THE CARD IS WHAT COUNTS. Prove the row's statement (the work); the ties are given (YtkbijambnnjmkaaGreatDoorTie.lean); close each card by the builder's one call (the guide's Derived/Test/ToyasCard.lean, 'card_holds'). Laid BY PROGRAM, IN A SANDBOX (cutbox-door.mjs). By AI agents, Wed Nov 11 2026. No macro, syntax, notation, axiom, sorry.
-/
import Derived.Test.YtkbijambnnjmkaaGreatDoorRows
import GoSem.ClaimSeven
namespace Go.Proofs.YtkbijambnnjmkaaGreatDoor
namespace Rows

/-- THE TIED CARD OF 'pentaglottop.TopCalendars'. -/
def topCalendarsCard : Claim7 := { stood := { row := topCalendarsRow, standIns := [], harness := (true, "7ba6fbf74684a8b1885c1395e922e8c36bba3bc73d731c4bccb5470068e8ad4e"), looks := false }, kinds := [], alts := [], laidByText := true, laidKinds := [.data, .listed, .data, .data, .pinned], laidTests := true, laidLooks := .later }
def TopCalendarsCardSaid : Prop := Claim7.holds Tryz.pinned (.plain (OpenSpec.ofChange topCalendarsSpec)) topCalendarsCard

/-- THE SECOND FORM's CARD OF 'pentaglottop.TopCalendars'. -/
def topCalendarsUptoCard : Claim7 := { stood := { row := topCalendarsUptoRow, standIns := [], harness := (true, "7ba6fbf74684a8b1885c1395e922e8c36bba3bc73d731c4bccb5470068e8ad4e"), looks := false }, kinds := [], alts := [], laidByText := true, laidKinds := [.data, .listed, .data, .data, .pinned], laidTests := true, laidLooks := .later }
def TopCalendarsUptoCardSaid : Prop := Claim7.holds Tryz.pinned (.plain (OpenSpec.upto topCalendarsSpec)) topCalendarsUptoCard
end Rows
end Go.Proofs.YtkbijambnnjmkaaGreatDoor
