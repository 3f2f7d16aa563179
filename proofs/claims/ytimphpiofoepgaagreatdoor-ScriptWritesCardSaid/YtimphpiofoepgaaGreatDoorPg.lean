/- the row. -/
import Derived.Test.YtimphpiofoepgaaGreatDoorPd
namespace Go.Proofs.YtimphpiofoepgaaGreatDoor
open Go
theorem kD : (rowS.named == Tryz.prog.varsNamed 3) = true := by kernel_rfl
end Go.Proofs.YtimphpiofoepgaaGreatDoor
