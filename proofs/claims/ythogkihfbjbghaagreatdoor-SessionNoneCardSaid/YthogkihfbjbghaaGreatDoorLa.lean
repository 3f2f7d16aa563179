/- the example of the chapter: lives() returns true, with a table of calls. -/
import Derived.Test.YthogkihfbjbghaaGreatDoorProg
import Derived.KernelRfl
import Derived.Test.YthogkihfbjbghaaGreatDoorEh
namespace Go.Proofs.YthogkihfbjbghaaGreatDoor
open Go Go.Proofs.YthogkihfbjbghaaGreatDoor.Abs Go.RowKit
set_option maxRecDepth 100000
def pow10 : List Value := [1, 10, 100, 1000, 10000, 100000, 1000000, 10000000, 100000000, 1000000000, 10000000000, 100000000000, 1000000000000, 10000000000000, 100000000000000, 1000000000000000, 10000000000000000, 100000000000000000, 1000000000000000000, 10000000000000000000].map fun n => .int .u64 n
theorem mixed : Tryz.prog.follows .mixedOrders = true := by kernel_rfl
end Go.Proofs.YthogkihfbjbghaaGreatDoor
