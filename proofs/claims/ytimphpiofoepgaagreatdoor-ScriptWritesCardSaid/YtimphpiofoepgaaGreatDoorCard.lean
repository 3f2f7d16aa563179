/- ScriptWrites: for every list of steps the law returns true and leaves its argument as it was (the tied card). No conditions of its own. -/
import Derived.Test.YtimphpiofoepgaaGreatDoorCards
import Derived.Test.YtimphpiofoepgaaGreatDoorPi
import Derived.Test.YtimphpiofoepgaaGreatDoorTg
import Derived.Test.YtimphpiofoepgaaGreatDoorCa
import Derived.Test.YtimphpiofoepgaaGreatDoorCb
namespace Go.Proofs.YtimphpiofoepgaaGreatDoor
open Go
open YtimphpiofoepgaaGreatDoor
theorem card_holds : Rows.ScriptWritesCardSaid :=
  Claim7.holds_tied_plain_at .later [] [.data, .data, .data, .sentinel, .sentinel] true (true, "5ad23539f6c9cacd7c34d0b4da499f83824ae95944d2d9bad24dec44a4e41ca5") true
    scriptWrites_holds (fun _ h => by cases h) cf2 (fun _ h => by cases h) scriptWrites_row_tied rfl ⟨rfl, rfl⟩ cf3 rfl
    (fun f fn hf hfn => by
      obtain rfl : f = 3 := Option.some.inj (fnamed.symm.trans hf) |>.symm
      obtain rfl : fn = Tryz.f3 := (Option.some.inj (Tryz.func3.symm.trans hfn)).symm
      exact ⟨cf4, fun j t ht => by
        rw [Tryz.params3] at ht
        have h3 : t = 22 := by
          rcases j with _ | j
          · simpa using ht.symm
          · simp at ht
        subst h3
        exact cf1⟩)
    cf5
#print axioms card_holds
end Go.Proofs.YtimphpiofoepgaaGreatDoor
