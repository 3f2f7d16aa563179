/- the tie, fact by fact. -/
import Derived.Test.YthogkihfbjbghaaGreatDoorRows
import Derived.Test.YthogkihfbjbghaaGreatDoorTa
import Derived.Test.YthogkihfbjbghaaGreatDoorTb
import Derived.Test.YthogkihfbjbghaaGreatDoorTc
import Derived.Test.YthogkihfbjbghaaGreatDoorTd
import Derived.Test.YthogkihfbjbghaaGreatDoorTe
import Derived.Test.YthogkihfbjbghaaGreatDoorTf
import Derived.LaidByTextLater
import Derived.SevenTiedAt
namespace Go.Proofs.YthogkihfbjbghaaGreatDoor
open Go
theorem tieAll : Tryz.prog.laidByTextLater laidL [.sentinel, .sentinel, .data, .data, .data] true :=
  Program.laidByTextLater_by_run 400 8 tieA1 tieA2 tieA3 tieA4 tieA5 tieA6 tieA7 tieA8 tieA9
theorem sessionNone_row_tied : Rows.sessionNoneRow.laidByTextAt .later Tryz.pinned [.sentinel, .sentinel, .data, .data, .data] true :=
  OpenClaim.laidByTextAt_later rfl rfl tieAll noOwnUnsafe
end Go.Proofs.YthogkihfbjbghaaGreatDoor
