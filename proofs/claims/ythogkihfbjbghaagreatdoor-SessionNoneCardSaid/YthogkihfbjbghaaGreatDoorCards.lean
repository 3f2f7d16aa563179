/-
  DERIVED. GIVEN WITH THE SEED: THE CARDS: each row of YthogkihfbjbghaaGreatDoorRows.lean that lists a variable, with what it lists TIED to the program's text (the seventh form; the later family's looks); each row that meets fmt, with fmt's text TOLD by the authors' own Lean function (tested against real Go, not proved from fmt's source: count such statements apart). THE CARD IS WHAT COUNTS. Prove the row's statement (the work); the ties are given (YthogkihfbjbghaaGreatDoorTie.lean); close each card by the builder's one call (the guide's Derived/Test/ToyasCard.lean, 'card_holds'). Laid BY PROGRAM, IN A SANDBOX (cutbox-door.mjs). By AI agents, Wed Nov 11 2026. No macro, syntax, notation, axiom, sorry.
-/
import Derived.Test.YthogkihfbjbghaaGreatDoorRows
import GoSem.ClaimSeven
namespace Go.Proofs.YthogkihfbjbghaaGreatDoor
namespace Rows

/-- THE TIED CARD OF 'azimuthlaw27.SessionNone'. -/
def sessionNoneCard : Claim7 := { stood := { row := sessionNoneRow, standIns := [], harness := (true, "80fbb7dcab1be476b8d5e8de38df472ddaba177b5f21b8e891007253ec56ccc7"), looks := true }, kinds := [], alts := [], laidByText := true, laidKinds := [.sentinel, .sentinel, .data, .data, .data], laidTests := true, laidLooks := .later }
def SessionNoneCardSaid : Prop := Claim7.holds Tryz.pinned (.plain (OpenSpec.ofChange sessionNoneSpec)) sessionNoneCard

/-- THE SECOND FORM's CARD OF 'azimuthlaw27.SessionNone'. -/
def sessionNoneUptoCard : Claim7 := { stood := { row := sessionNoneUptoRow, standIns := [], harness := (true, "80fbb7dcab1be476b8d5e8de38df472ddaba177b5f21b8e891007253ec56ccc7"), looks := true }, kinds := [], alts := [], laidByText := true, laidKinds := [.sentinel, .sentinel, .data, .data, .data], laidTests := true, laidLooks := .later }
def SessionNoneUptoCardSaid : Prop := Claim7.holds Tryz.pinned (.plain (OpenSpec.upto sessionNoneSpec)) sessionNoneUptoCard
end Rows
end Go.Proofs.YthogkihfbjbghaaGreatDoor
