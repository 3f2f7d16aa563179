/- the example of the chapter: lives() returns true, with a table of calls. -/
import Derived.Test.YthogkihfbjbghaaGreatDoorProg
import Derived.KernelRfl
import Derived.Test.YthogkihfbjbghaaGreatDoorEh
import Derived.Test.YthogkihfbjbghaaGreatDoorLb
import Derived.Test.YthogkihfbjbghaaGreatDoorLc
import Derived.Test.YthogkihfbjbghaaGreatDoorLd
import Derived.Test.YthogkihfbjbghaaGreatDoorLe
namespace Go.Proofs.YthogkihfbjbghaaGreatDoor
open Go Go.Proofs.YthogkihfbjbghaaGreatDoor.Abs Go.RowKit
set_option maxRecDepth 100000
theorem lives27_run : okTrue 10 (callM [e1, e2, e3, e4] Tryz.prog 7 60 (.call 4 []) (Go.Proofs.YthogkihfbjbghaaGreatDoor.Abs.start 10 1 pow10)) = true := by kernel_rfl
theorem lives27 {w : World} (h : RomAt w 1 pow10) : Calls Tryz.prog 4 #[] w fun e w' => e = .returned (.bool true) ∧ Below w.heap.size w w' :=
  true_callsM (n0 := 10) (ng := 7) (rid := 1) (cs := pow10) (tbl := [e1, e2, e3, e4]) (args := []) (args' := #[]) (fun e h => by
    simp only [List.mem_cons, List.not_mem_nil, or_false] at h
    rcases h with rfl | rfl | rfl | rfl
    · exact e1_ok
    · exact e2_ok
    · exact e3_ok
    · exact e4_ok) mixed (by decide) (by decide) (by decide) (by decide +kernel) lives27_run h (LRel.nil _)
end Go.Proofs.YthogkihfbjbghaaGreatDoor
