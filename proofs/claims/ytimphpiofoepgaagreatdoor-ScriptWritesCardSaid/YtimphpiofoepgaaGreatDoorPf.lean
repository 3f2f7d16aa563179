/- the row. -/
import Derived.Test.YtimphpiofoepgaaGreatDoorPd
namespace Go.Proofs.YtimphpiofoepgaaGreatDoor
open Go
theorem kC : (rowS.recurses == Tryz.prog.recurses 3) = true := by kernel_rfl
end Go.Proofs.YtimphpiofoepgaaGreatDoor
