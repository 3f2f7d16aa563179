/- the row. -/
import Derived.Test.YthogkihfbjbghaaGreatDoorPe
import Derived.Test.YthogkihfbjbghaaGreatDoorPf
import Derived.Test.YthogkihfbjbghaaGreatDoorPg
namespace Go.Proofs.YthogkihfbjbghaaGreatDoor
open Go
theorem and_t {a b : Bool} (ha : a = true) (hb : b = true) : (a && b) = true := by rw [ha, hb]; rfl
set_option maxHeartbeats 4000000 in
theorem jf : joinedFacts Tryz.prog 3 Tryz.f3 YthogkihfbjbghaaGreatDoor.Rows.sessionNoneSpec rowS = true := by
  unfold joinedFacts
  repeat' (with_reducible refine and_t ?_ ?_)
  all_goals first
    | with_reducible exact kA
    | with_reducible exact kB
    | with_reducible exact kC
    | with_reducible exact kD
    | (as_aux_lemma => kernel_rfl)
end Go.Proofs.YthogkihfbjbghaaGreatDoor
