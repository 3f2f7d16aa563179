/- the tie, fact by fact. -/
import Derived.Test.YtimphpiofoepgaaGreatDoorRows
import Derived.Test.YtimphpiofoepgaaGreatDoorTa
import Derived.LaidByTextLater
import Derived.SevenTiedAt
namespace Go.Proofs.YtimphpiofoepgaaGreatDoor
open Go
theorem noOwnUnsafe : Tryz.pinned.checked.prog.headLifts.contains "ownunsafe" = false := by kernel_rfl
end Go.Proofs.YtimphpiofoepgaaGreatDoor
