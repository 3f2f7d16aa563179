/- the row. -/
import Derived.Test.YthogkihfbjbghaaGreatDoorPd
namespace Go.Proofs.YthogkihfbjbghaaGreatDoor
open Go
theorem kD : (rowS.named == Tryz.prog.varsNamed 3) = true := by kernel_rfl
end Go.Proofs.YthogkihfbjbghaaGreatDoor
