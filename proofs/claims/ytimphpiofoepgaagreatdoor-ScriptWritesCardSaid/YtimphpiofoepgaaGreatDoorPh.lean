/- the row. -/
import Derived.Test.YtimphpiofoepgaaGreatDoorPe
import Derived.Test.YtimphpiofoepgaaGreatDoorPf
import Derived.Test.YtimphpiofoepgaaGreatDoorPg
namespace Go.Proofs.YtimphpiofoepgaaGreatDoor
open Go
theorem and_t {a b : Bool} (ha : a = true) (hb : b = true) : (a && b) = true := by rw [ha, hb]; rfl
set_option maxHeartbeats 4000000 in
theorem jf : joinedFacts Tryz.prog 3 Tryz.f3 YtimphpiofoepgaaGreatDoor.Rows.scriptWritesSpec rowS = true := by
  unfold joinedFacts
  repeat' (with_reducible refine and_t ?_ ?_)
  all_goals first
    | with_reducible exact kA
    | with_reducible exact kB
    | with_reducible exact kC
    | with_reducible exact kD
    | (as_aux_lemma => kernel_rfl)
end Go.Proofs.YtimphpiofoepgaaGreatDoor
