/- the tie, fact by fact. -/
import Derived.Test.YtimphpiofoepgaaGreatDoorRows
import Derived.Test.YtimphpiofoepgaaGreatDoorTa
import Derived.LaidByTextLater
import Derived.SevenTiedAt
namespace Go.Proofs.YtimphpiofoepgaaGreatDoor
open Go
theorem tieA6 : varsNamedLaterB Tryz.prog (varsId Tryz.prog) laidL = true := by kernel_rfl
end Go.Proofs.YtimphpiofoepgaaGreatDoor
