/- the example of the chapter: lives() returns true. -/
import Derived.Test.YtimphpiofoepgaaGreatDoorProg
import Derived.KernelRfl
import Derived.Test.YtimphpiofoepgaaGreatDoorEh
open Go Go.Proofs.YtimphpiofoepgaaGreatDoor.Abs Go.RowKit
namespace Go.Proofs.YtimphpiofoepgaaGreatDoor
set_option maxRecDepth 100000
def pow10 : List Value := [1, 10, 100, 1000, 10000, 100000, 1000000, 10000000, 100000000, 1000000000, 10000000000, 100000000000, 1000000000000, 10000000000000, 100000000000000, 1000000000000000, 10000000000000000, 100000000000000000, 1000000000000000000, 10000000000000000000].map fun n => .int .u64 n
theorem lives28_run : okTrue 10 (callM [] Tryz.prog 7 60 (.call 4 []) (Go.Proofs.YtimphpiofoepgaaGreatDoor.Abs.start 10 1 pow10)) = true := by kernel_rfl
theorem mixed : Tryz.prog.follows .mixedOrders = true := by kernel_rfl
theorem lives28 {w : World} (h : RomAt w 1 pow10) : Calls Tryz.prog 4 #[] w fun e w' => e = .returned (.bool true) ∧ Below w.heap.size w w' :=
  true_callsM (n0 := 10) (ng := 7) (rid := 1) (cs := pow10) (tbl := []) (args := []) (args' := #[]) (fun e h => absurd h (by simp)) mixed (by decide) (by decide) (by decide) (by decide +kernel) lives28_run h (LRel.nil _)
end Go.Proofs.YtimphpiofoepgaaGreatDoor
