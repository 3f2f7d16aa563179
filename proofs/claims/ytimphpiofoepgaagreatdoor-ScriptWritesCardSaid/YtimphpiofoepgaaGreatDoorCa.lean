/- closed facts of the card. -/
import Derived.Test.YtimphpiofoepgaaGreatDoorCards
import Derived.SevenTiedAt
namespace Go.Proofs.YtimphpiofoepgaaGreatDoor
open Go
open YtimphpiofoepgaaGreatDoor
theorem cf1 : Tryz.prog.wantsStandIn 22 = false := by kernel_rfl
theorem cf2 : Rows.scriptWritesRow.wfByText (OpenSpec.ofChange Rows.scriptWritesSpec) = true := by kernel_rfl
theorem cf3 : Tryz.prog.mainIs = some (true, "5ad23539f6c9cacd7c34d0b4da499f83824ae95944d2d9bad24dec44a4e41ca5".toList) := by kernel_rfl
theorem cf4 : true = Tryz.prog.looks [] := by kernel_rfl
end Go.Proofs.YtimphpiofoepgaaGreatDoor
