/- SessionNone: for every pair of numbers and every string the law returns true and leaves the memory that was there as it was (the tied card). No conditions of its own. -/
import Derived.Test.YthogkihfbjbghaaGreatDoorCards
import Derived.Test.YthogkihfbjbghaaGreatDoorPi
import Derived.Test.YthogkihfbjbghaaGreatDoorTg
import Derived.Test.YthogkihfbjbghaaGreatDoorCa
import Derived.Test.YthogkihfbjbghaaGreatDoorCb
namespace Go.Proofs.YthogkihfbjbghaaGreatDoor
open Go
open YthogkihfbjbghaaGreatDoor
theorem card_holds : Rows.SessionNoneCardSaid :=
  Claim7.holds_tied_plain_at .later [] [.sentinel, .sentinel, .data, .data, .data] true (true, "80fbb7dcab1be476b8d5e8de38df472ddaba177b5f21b8e891007253ec56ccc7") true
    sessionNone_holds (fun _ h => by cases h) cf2 (fun _ h => by cases h) sessionNone_row_tied rfl ⟨rfl, rfl⟩ cf3 rfl
    (fun f fn hf hfn => by
      obtain rfl : f = 3 := Option.some.inj (fnamed.symm.trans hf) |>.symm
      obtain rfl : fn = Tryz.f3 := (Option.some.inj (Tryz.func3.symm.trans hfn)).symm
      exact ⟨cf4, fun j t ht => by
        rw [Tryz.params3] at ht
        have h3 : t = 3 ∨ t = 9 := by
          have := Array.mem_of_getElem? ht
          simp at this
          exact this
        rcases h3 with rfl | rfl
        · exact cf1
        · exact cf9⟩)
    cf5
#print axioms card_holds
end Go.Proofs.YthogkihfbjbghaaGreatDoor
