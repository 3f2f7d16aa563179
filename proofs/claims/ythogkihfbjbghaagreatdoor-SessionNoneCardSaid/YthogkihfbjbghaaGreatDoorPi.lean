/- the row. -/
import Derived.Test.YthogkihfbjbghaaGreatDoorPc
import Derived.Test.YthogkihfbjbghaaGreatDoorPh
namespace Go.Proofs.YthogkihfbjbghaaGreatDoor
open Go Go.RowKit Go.ChangeShapes Go.WideShapes
theorem sessionNone_holds : YthogkihfbjbghaaGreatDoor.Rows.SessionNoneSaid :=
  OpenClaim.holds_of_wide (p := YthogkihfbjbghaaGreatDoor.Tryz.pinned) (s := YthogkihfbjbghaaGreatDoor.Rows.sessionNoneSpec) (c := YthogkihfbjbghaaGreatDoor.Rows.sessionNoneRow) 3 Tryz.f3 rfl rfl rfl rfl rfl rfl rfl ⟨rfl, rfl, rfl, rfl, rfl⟩ rfl rfl rfl rfl rfl fnamed Tryz.func3 jf finst fwrap
    (fun os started H enc _ => lifted os started H enc)
end Go.Proofs.YthogkihfbjbghaaGreatDoor
