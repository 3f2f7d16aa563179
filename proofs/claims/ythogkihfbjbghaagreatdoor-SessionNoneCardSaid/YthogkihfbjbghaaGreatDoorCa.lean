/- closed facts of the card. -/
import Derived.Test.YthogkihfbjbghaaGreatDoorCards
import Derived.SevenTiedAt
namespace Go.Proofs.YthogkihfbjbghaaGreatDoor
open Go
open YthogkihfbjbghaaGreatDoor
theorem cf1 : Tryz.prog.wantsStandIn 3 = false := by kernel_rfl
theorem cf9 : Tryz.prog.wantsStandIn 9 = false := by kernel_rfl
theorem cf2 : Rows.sessionNoneRow.wfByText (OpenSpec.ofChange Rows.sessionNoneSpec) = true := by kernel_rfl
theorem cf3 : Tryz.prog.mainIs = some (true, "80fbb7dcab1be476b8d5e8de38df472ddaba177b5f21b8e891007253ec56ccc7".toList) := by kernel_rfl
theorem cf4 : true = Tryz.prog.looks [] := by kernel_rfl
end Go.Proofs.YthogkihfbjbghaaGreatDoor
