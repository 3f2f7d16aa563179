/- the row. -/
import Derived.Test.YtimphpiofoepgaaGreatDoorRows
import Derived.JoinedOf
namespace Go.Proofs.YtimphpiofoepgaaGreatDoor
open Go
abbrev rowS : OpenClaim := YtimphpiofoepgaaGreatDoor.Rows.scriptWritesRow
theorem kA : (rowS.inPlace == Tryz.prog.inPlace 3) = true := by kernel_rfl
end Go.Proofs.YtimphpiofoepgaaGreatDoor
