/-
  DERIVED. GIVEN WITH THE SEED: THE CARDS: each row of YtfloogndmfkimaaGreatDoorRows.lean that lists a variable, with what it lists TIED to the program's text (the seventh form; the later family's looks); each row that meets fmt, with fmt's text TOLD by the authors' own Lean function (tested against real Go, not proved from fmt's source: count such statements apart). THE CARD IS WHAT COUNTS. Prove the row's statement (the work); the ties are given (YtfloogndmfkimaaGreatDoorTie.lean); close each card by the builder's one call (the guide's Derived/Test/ToyasCard.lean, 'card_holds'). Laid BY PROGRAM, IN A SANDBOX (cutbox-door.mjs). By AI agents, Wed Nov 11 2026. No macro, syntax, notation, axiom, sorry.
-/
import Derived.Test.YtfloogndmfkimaaGreatDoorRows
import GoSem.ClaimSeven
namespace Go.Proofs.YtfloogndmfkimaaGreatDoor
namespace Rows

/-- THE TIED CARD OF 'viatorlaw45.AlgebraPlain'. -/
def algebraPlainCard : Claim7 := { stood := { row := algebraPlainRow, standIns := [], harness := (true, "75885a6b000ff9bd1132648ce398705bb346b8725f886424b993f47b380488cc"), looks := false }, kinds := [], alts := [], laidByText := true, laidKinds := [.data, .pinned], laidTests := true, laidLooks := .later }
def AlgebraPlainCardSaid : Prop := Claim7.holds Tryz.pinned (.plain (OpenSpec.ofChange algebraPlainSpec)) algebraPlainCard

/-- THE SECOND FORM's CARD OF 'viatorlaw45.AlgebraPlain'. -/
def algebraPlainUptoCard : Claim7 := { stood := { row := algebraPlainUptoRow, standIns := [], harness := (true, "75885a6b000ff9bd1132648ce398705bb346b8725f886424b993f47b380488cc"), looks := false }, kinds := [], alts := [], laidByText := true, laidKinds := [.data, .pinned], laidTests := true, laidLooks := .later }
def AlgebraPlainUptoCardSaid : Prop := Claim7.holds Tryz.pinned (.plain (OpenSpec.upto algebraPlainSpec)) algebraPlainUptoCard
end Rows
end Go.Proofs.YtfloogndmfkimaaGreatDoor
