/-
  DERIVED. GIVEN WITH THE SEED: THE CARDS: each row of YtimphpiofoepgaaGreatDoorRows.lean that lists a variable, with what it lists TIED to the program's text (the seventh form; the later family's looks); each row that meets fmt, with fmt's text TOLD by the authors' own Lean function (tested against real Go, not proved from fmt's source: count such statements apart). THE CARD IS WHAT COUNTS. Prove the row's statement (the work); the ties are given (YtimphpiofoepgaaGreatDoorTie.lean); close each card by the builder's one call (the guide's Derived/Test/ToyasCard.lean, 'card_holds'). Laid BY PROGRAM, IN A SANDBOX (cutbox-door.mjs). By AI agents, Wed Nov 11 2026. No macro, syntax, notation, axiom, sorry.
-/
import Derived.Test.YtimphpiofoepgaaGreatDoorRows
import GoSem.ClaimSeven
namespace Go.Proofs.YtimphpiofoepgaaGreatDoor
namespace Rows

/-- THE TIED CARD OF 'azimuthlaw28.ScriptWrites'. -/
def scriptWritesCard : Claim7 := { stood := { row := scriptWritesRow, standIns := [], harness := (true, "5ad23539f6c9cacd7c34d0b4da499f83824ae95944d2d9bad24dec44a4e41ca5"), looks := true }, kinds := [], alts := [], laidByText := true, laidKinds := [.data, .data, .data, .sentinel, .sentinel], laidTests := true, laidLooks := .later }
def ScriptWritesCardSaid : Prop := Claim7.holds Tryz.pinned (.plain (OpenSpec.ofChange scriptWritesSpec)) scriptWritesCard

/-- THE SECOND FORM's CARD OF 'azimuthlaw28.ScriptWrites'. -/
def scriptWritesUptoCard : Claim7 := { stood := { row := scriptWritesUptoRow, standIns := [], harness := (true, "5ad23539f6c9cacd7c34d0b4da499f83824ae95944d2d9bad24dec44a4e41ca5"), looks := true }, kinds := [], alts := [], laidByText := true, laidKinds := [.data, .data, .data, .sentinel, .sentinel], laidTests := true, laidLooks := .later }
def ScriptWritesUptoCardSaid : Prop := Claim7.holds Tryz.pinned (.plain (OpenSpec.upto scriptWritesSpec)) scriptWritesUptoCard
end Rows
end Go.Proofs.YtimphpiofoepgaaGreatDoor
