/- the row. -/
import Derived.Test.YthogkihfbjbghaaGreatDoorPd
namespace Go.Proofs.YthogkihfbjbghaaGreatDoor
open Go
theorem kB : (rowS.unfollowed == Tryz.prog.unfollowed 3) = true := by kernel_rfl
end Go.Proofs.YthogkihfbjbghaaGreatDoor
