/- the tie, fact by fact. -/
import Derived.Test.YtimphpiofoepgaaGreatDoorRows
import Derived.Test.YtimphpiofoepgaaGreatDoorTa
import Derived.Test.YtimphpiofoepgaaGreatDoorTb
import Derived.Test.YtimphpiofoepgaaGreatDoorTc
import Derived.Test.YtimphpiofoepgaaGreatDoorTd
import Derived.Test.YtimphpiofoepgaaGreatDoorTe
import Derived.Test.YtimphpiofoepgaaGreatDoorTf
import Derived.LaidByTextLater
import Derived.SevenTiedAt
namespace Go.Proofs.YtimphpiofoepgaaGreatDoor
open Go
theorem tieAll : Tryz.prog.laidByTextLater laidL [.data, .data, .data, .sentinel, .sentinel] true :=
  Program.laidByTextLater_by_run 400 8 tieA1 tieA2 tieA3 tieA4 tieA5 tieA6 tieA7 tieA8 tieA9
theorem scriptWrites_row_tied : Rows.scriptWritesRow.laidByTextAt .later Tryz.pinned [.data, .data, .data, .sentinel, .sentinel] true :=
  OpenClaim.laidByTextAt_later rfl rfl tieAll noOwnUnsafe
end Go.Proofs.YtimphpiofoepgaaGreatDoor
