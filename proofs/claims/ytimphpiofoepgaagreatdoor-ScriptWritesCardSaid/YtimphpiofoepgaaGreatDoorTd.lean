/- the tie, fact by fact. -/
import Derived.Test.YtimphpiofoepgaaGreatDoorRows
import Derived.Test.YtimphpiofoepgaaGreatDoorTa
import Derived.LaidByTextLater
import Derived.SevenTiedAt
namespace Go.Proofs.YtimphpiofoepgaaGreatDoor
open Go
theorem tieA8 : ∀ os tape, (DataW.laidRun Tryz.prog (varsWorld Tryz.prog 400 (varsId Tryz.prog) os tape).memory 8 (laidL.map (·.1))).map (·.1) = some laidL := fun _ _ => by kernel_rfl
end Go.Proofs.YtimphpiofoepgaaGreatDoor
