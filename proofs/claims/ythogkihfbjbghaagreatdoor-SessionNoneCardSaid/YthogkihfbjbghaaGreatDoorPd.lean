/- the row. -/
import Derived.Test.YthogkihfbjbghaaGreatDoorRows
import Derived.JoinedOf
namespace Go.Proofs.YthogkihfbjbghaaGreatDoor
open Go
abbrev rowS : OpenClaim := YthogkihfbjbghaaGreatDoor.Rows.sessionNoneRow
theorem kA : (rowS.inPlace == Tryz.prog.inPlace 3) = true := by kernel_rfl
end Go.Proofs.YthogkihfbjbghaaGreatDoor
