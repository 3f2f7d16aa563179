/- the row. -/
import Derived.Test.YtimphpiofoepgaaGreatDoorPb
namespace Go.Proofs.YtimphpiofoepgaaGreatDoor
open Go Go.RowKit Go.ChangeShapes Go.WideShapes
theorem fnamed : Tryz.prog.funcNamed "azimuth/azimuthlaw28.ScriptWrites" = some 3 := by kernel_rfl
theorem finst : Tryz.f3.isInstance Tryz.prog YtimphpiofoepgaaGreatDoor.Rows.scriptWritesRow.origin YtimphpiofoepgaaGreatDoor.Rows.scriptWritesRow.targs := of_decide_eq_true (by kernel_rfl)
theorem fwrap : Tryz.f3.isWrapper Tryz.prog YtimphpiofoepgaaGreatDoor.Rows.scriptWritesRow.wrapper YtimphpiofoepgaaGreatDoor.Rows.scriptWritesRow.mainSum := by unfold Func.isWrapper; first | (rw [if_pos (by decide +kernel)]; kernel_rfl) | (rw [if_neg (by decide +kernel)]; exact ⟨rfl, rfl⟩)
end Go.Proofs.YtimphpiofoepgaaGreatDoor
