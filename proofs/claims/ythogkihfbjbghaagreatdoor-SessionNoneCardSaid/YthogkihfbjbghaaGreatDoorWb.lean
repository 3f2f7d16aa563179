/- the walks. -/
import Derived.Test.YthogkihfbjbghaaGreatDoorWa
import Derived.Test.YthogkihfbjbghaaGreatDoorLa
namespace Go.Proofs.YthogkihfbjbghaaGreatDoor
open Go Go.Proofs.YthogkihfbjbghaaGreatDoor.Abs Go.RowKit
set_option maxRecDepth 100000
noncomputable def body3 : Code := match Tryz.f3.body with
  | some c => c
  | none => .skip
noncomputable def rest3 : Code := seqRest 3 body3
noncomputable def frm (name : ByteArray) (e : Int) (b : Bool) : Fr := ⟨mkT [(2, .string name), (8, .int .i64 e), (9, .bool b)] .leaf, []⟩
theorem rest_ok (name : ByteArray) : okTrue 10 (restA Tryz.prog 7 60 3 Tryz.f3 rest3 (frm name 0 true) (Go.Proofs.YthogkihfbjbghaaGreatDoor.Abs.start 10 1 pow10)) = true := by kernel_rfl
theorem rest_no (name : ByteArray) : okTrue 10 (restA Tryz.prog 7 60 3 Tryz.f3 rest3 (frm name 1 false) (Go.Proofs.YthogkihfbjbghaaGreatDoor.Abs.start 10 1 pow10)) = true := by kernel_rfl
end Go.Proofs.YthogkihfbjbghaaGreatDoor
