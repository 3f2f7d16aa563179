/- the tie, fact by fact. -/
import Derived.Test.YthogkihfbjbghaaGreatDoorRows
import Derived.Test.YthogkihfbjbghaaGreatDoorTa
import Derived.LaidByTextLater
import Derived.SevenTiedAt
namespace Go.Proofs.YthogkihfbjbghaaGreatDoor
open Go
theorem tieA6 : varsNamedLaterB Tryz.prog (varsId Tryz.prog) laidL = true := by kernel_rfl
end Go.Proofs.YthogkihfbjbghaaGreatDoor
