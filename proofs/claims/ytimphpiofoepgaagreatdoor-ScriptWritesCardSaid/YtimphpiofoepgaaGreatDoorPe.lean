/- the row. -/
import Derived.Test.YtimphpiofoepgaaGreatDoorPd
namespace Go.Proofs.YtimphpiofoepgaaGreatDoor
open Go
theorem kB : (rowS.unfollowed == Tryz.prog.unfollowed 3) = true := by kernel_rfl
end Go.Proofs.YtimphpiofoepgaaGreatDoor
