/- the tie, fact by fact. -/
import Derived.Test.YthogkihfbjbghaaGreatDoorRows
import Derived.Test.YthogkihfbjbghaaGreatDoorTa
import Derived.LaidByTextLater
import Derived.SevenTiedAt
namespace Go.Proofs.YthogkihfbjbghaaGreatDoor
open Go
theorem tieA9 : ∀ os tape, (DataW.laidRun Tryz.prog (varsWorld Tryz.prog 400 (varsId Tryz.prog) os tape).memory 8 (laidL.map (·.1))).map (fun x => decide x.2.Nodup && laidRowsB Tryz.prog (varsWorld Tryz.prog 400 (varsId Tryz.prog) os tape).memory x.2) = some true := fun _ _ => by kernel_rfl
end Go.Proofs.YthogkihfbjbghaaGreatDoor
