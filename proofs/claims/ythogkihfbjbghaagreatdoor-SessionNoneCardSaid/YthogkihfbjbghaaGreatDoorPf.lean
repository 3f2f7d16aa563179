/- the row. -/
import Derived.Test.YthogkihfbjbghaaGreatDoorPd
namespace Go.Proofs.YthogkihfbjbghaaGreatDoor
open Go
theorem kC : (rowS.recurses == Tryz.prog.recurses 3) = true := by kernel_rfl
end Go.Proofs.YthogkihfbjbghaaGreatDoor
