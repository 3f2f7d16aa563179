/- the row. -/
import Derived.Test.YtimphpiofoepgaaGreatDoorPc
import Derived.Test.YtimphpiofoepgaaGreatDoorPh
namespace Go.Proofs.YtimphpiofoepgaaGreatDoor
open Go Go.RowKit Go.ChangeShapes Go.WideShapes
theorem scriptWrites_holds : YtimphpiofoepgaaGreatDoor.Rows.ScriptWritesSaid :=
  OpenClaim.holds_of_wide (p := YtimphpiofoepgaaGreatDoor.Tryz.pinned) (s := YtimphpiofoepgaaGreatDoor.Rows.scriptWritesSpec) (c := YtimphpiofoepgaaGreatDoor.Rows.scriptWritesRow) 3 Tryz.f3 rfl rfl rfl rfl rfl rfl rfl ⟨rfl, rfl, rfl, rfl, rfl⟩ rfl rfl rfl rfl rfl fnamed Tryz.func3 jf finst fwrap
    (fun os started H enc _ => lifted os started H enc)
end Go.Proofs.YtimphpiofoepgaaGreatDoor
