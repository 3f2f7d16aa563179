/- the tie, fact by fact. -/
import Derived.Test.YtimphpiofoepgaaGreatDoorRows
import Derived.Test.YtimphpiofoepgaaGreatDoorTa
import Derived.LaidByTextLater
import Derived.SevenTiedAt
namespace Go.Proofs.YtimphpiofoepgaaGreatDoor
open Go
theorem tieA7 : ∀ os tape, varsDone Tryz.prog 400 (varsId Tryz.prog) os tape = true := fun _ _ => by kernel_rfl
end Go.Proofs.YtimphpiofoepgaaGreatDoor
