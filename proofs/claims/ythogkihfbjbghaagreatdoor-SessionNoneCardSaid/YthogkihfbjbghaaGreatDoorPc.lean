/- the row. -/
import Derived.Test.YthogkihfbjbghaaGreatDoorPb
namespace Go.Proofs.YthogkihfbjbghaaGreatDoor
open Go Go.RowKit Go.ChangeShapes Go.WideShapes
theorem fnamed : Tryz.prog.funcNamed "azimuth/azimuthlaw27.SessionNone" = some 3 := by kernel_rfl
theorem finst : Tryz.f3.isInstance Tryz.prog YthogkihfbjbghaaGreatDoor.Rows.sessionNoneRow.origin YthogkihfbjbghaaGreatDoor.Rows.sessionNoneRow.targs := of_decide_eq_true (by kernel_rfl)
theorem fwrap : Tryz.f3.isWrapper Tryz.prog YthogkihfbjbghaaGreatDoor.Rows.sessionNoneRow.wrapper YthogkihfbjbghaaGreatDoor.Rows.sessionNoneRow.mainSum := by unfold Func.isWrapper; first | (rw [if_pos (by decide +kernel)]; kernel_rfl) | (rw [if_neg (by decide +kernel)]; exact ⟨rfl, rfl⟩)
end Go.Proofs.YthogkihfbjbghaaGreatDoor
