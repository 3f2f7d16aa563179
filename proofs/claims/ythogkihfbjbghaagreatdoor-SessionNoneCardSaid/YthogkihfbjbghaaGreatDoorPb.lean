/- the row. -/
import Derived.Test.YthogkihfbjbghaaGreatDoorPa
namespace Go.Proofs.YthogkihfbjbghaaGreatDoor
open Go Go.RowKit Go.ChangeShapes Go.WideShapes

theorem door1 (os : Os) (args : Array Value) : (DataW.laidRun Tryz.prog ((World.doorLaid Tryz.prog 400 os).forCall (fun _ _ => 0) ⟨#[], args, []⟩).memory 8 ((laid5.filter fun x => x.2.handleName?.isNone).map (·.1))).map (·.1) = some (laid5.filter fun x => x.2.handleName?.isNone) := by kernel_rfl
theorem door2 (os : Os) (args : Array Value) : (DataW.laidRun Tryz.prog ((World.doorLaid Tryz.prog 400 os).forCall (fun _ _ => 0) ⟨#[], args, []⟩).memory 8 ((laid5.filter fun x => x.2.handleName?.isNone).map (·.1))).map (fun x => decide x.2.Nodup && laidRowsB Tryz.prog ((World.doorLaid Tryz.prog 400 os).forCall (fun _ _ => 0) ⟨#[], args, []⟩).memory x.2) = some true := by kernel_rfl
theorem door_met (os : Os) (args : Array Value) : laidMetH Tryz.prog laid5 ((World.doorLaid Tryz.prog 400 os).forCall (fun _ _ => 0) ⟨#[], args, []⟩).memory :=
  laidMetH_of_parts3 (fuel := 8) (laidMet_of_run' 8 (door1 os args) (door2 os args)) (by kernel_rfl) (by kernel_rfl)
theorem shaped1 (os : Os) : (((World.doorLaid Tryz.prog 400 os).forCall (fun _ _ => 0) ⟨#[], #[.int .i64 0, .int .i64 0, .string ⟨#[]⟩], []⟩)).variablesRefB Tryz.prog = true := by kernel_rfl
theorem shaped2 (os : Os) : ((((World.doorLaid Tryz.prog 400 os).forCall (fun _ _ => 0) ⟨#[], #[.int .i64 0, .int .i64 0, .string ⟨#[]⟩], []⟩)).heap.toList.drop Tryz.prog.globals.size).take ((begin Tryz.prog (fun _ _ => 0) default).world.heap.size - Tryz.prog.globals.size) =
      (begin Tryz.prog (fun _ _ => 0) default).world.heap.toList.drop Tryz.prog.globals.size := by kernel_rfl
theorem okw (os : Os) : Input.okWideB Tryz.prog ((World.doorLaid Tryz.prog 400 os).forCall (fun _ _ => 0) ⟨#[], #[.int .i64 0, .int .i64 0, .string ⟨#[]⟩], []⟩) 3 ⟨#[], #[.int .i64 0, .int .i64 0, .string ⟨#[]⟩], []⟩ = true := by kernel_rfl
theorem preb (os : Os) (H : Type) (enc : TypeId × Value → H) : YthogkihfbjbghaaGreatDoor.Rows.sessionNoneSpec.preB enc Tryz.prog Tryz.f3 [] false ((World.doorLaid Tryz.prog 400 os).forCall (fun _ _ => 0) ⟨#[], #[.int .i64 0, .int .i64 0, .string ⟨#[]⟩], []⟩).memory #[.int .i64 0, .int .i64 0, .string ⟨#[]⟩] 8 = true := by kernel_rfl
theorem sizb (os : Os) (H : Type) (enc : TypeId × Value → H) : YthogkihfbjbghaaGreatDoor.Rows.sessionNoneSpec.sizedB enc Tryz.prog Tryz.f3 false ((World.doorLaid Tryz.prog 400 os).forCall (fun _ _ => 0) ⟨#[], #[.int .i64 0, .int .i64 0, .string ⟨#[]⟩], []⟩).memory #[.int .i64 0, .int .i64 0, .string ⟨#[]⟩] 8 = true := by kernel_rfl

set_option maxRecDepth 100000 in
theorem lifted (os : Os) (started : os.Started) (H : Type) (enc : TypeId × Value → H) :
    ReturnsInHanded {} Tryz.checked os 3 .any (fun w args => (YthogkihfbjbghaaGreatDoor.Rows.sessionNoneSpec.pre enc Tryz.prog Tryz.f3 [] false w args ∧ laidMetH Tryz.prog laid5 w) ∧ sizedMet enc Tryz.prog Tryz.f3 (OpenSpec.ofChange YthogkihfbjbghaaGreatDoor.Rows.sessionNoneSpec) false w args)
      (YthogkihfbjbghaaGreatDoor.Rows.sessionNoneSpec.post enc Tryz.prog Tryz.f3 false true false false) := by
  refine returnsInHanded_of_change_and (C := Tryz.checked) (X := fun w _ => laidMetH Tryz.prog laid5 w) (fun _ _ _ hh h => h.of_heap hh) own started (by kernel_rfl) Tryz.func3
    (ChangeSpec.witness_shaped (enc := enc) (C := Tryz.checked) (os := os) (X := fun w _ => laidMetH Tryz.prog laid5 w) false (World.doorLaid Tryz.prog 400 os) #[.int .i64 0, .int .i64 0, .string ⟨#[]⟩] 8 rfl (World.shaped_of_RefB (shaped1 os) (shaped2 os)) (okw os) (preb os H enc) (sizb os H enc) (door_met os _)) ?_
  intro W base args ds gs before hval0 hW _ _ hL _
  exact row_calls H enc W base args ds gs before hval0 hW hL

end Go.Proofs.YthogkihfbjbghaaGreatDoor
