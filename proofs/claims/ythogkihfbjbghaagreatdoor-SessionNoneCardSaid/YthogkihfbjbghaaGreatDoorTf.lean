/- the tie, fact by fact. -/
import Derived.Test.YthogkihfbjbghaaGreatDoorRows
import Derived.Test.YthogkihfbjbghaaGreatDoorTa
import Derived.LaidByTextLater
import Derived.SevenTiedAt
namespace Go.Proofs.YthogkihfbjbghaaGreatDoor
open Go
theorem noOwnUnsafe : Tryz.pinned.checked.prog.headLifts.contains "ownunsafe" = false := by kernel_rfl
end Go.Proofs.YthogkihfbjbghaaGreatDoor
