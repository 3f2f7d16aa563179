/- closed facts of the card. -/
import Derived.Test.YthogkihfbjbghaaGreatDoorCards
import Derived.SevenTiedAt
namespace Go.Proofs.YthogkihfbjbghaaGreatDoor
open Go
open YthogkihfbjbghaaGreatDoor
theorem noneGoes : Tryz.prog.funcs.toList.any Func.goes = false := by kernel_rfl
theorem goes_none {P : Program} (h : P.funcs.toList.any Func.goes = false) (f : FuncId) : P.goes f = false := by
  have h1 : ∀ fn ∈ P.funcs.toList, Func.goes fn = false := fun fn hfn => by
    have := List.any_eq_false.1 h fn hfn
    simpa using this
  have h2 : ∀ g : Nat, (P.funcs[g]?).any Func.goes = false := fun g => by
    cases e : P.funcs[g]? with
    | none => rfl
    | some fn => exact h1 fn (by simpa using Array.mem_of_getElem? e)
  have h3 : P.funcs.any Func.goes = false := by rw [← Array.any_toList]; exact h
  unfold Program.goes
  rw [h3, Bool.and_false, Bool.or_false]
  simp only [h2]
  simp
theorem goesBy_none {c : OpenClaim} {P : Program} (h : P.funcs.toList.any Func.goes = false) (hs : c.start = .entering) : false = c.goesBy P := by
  unfold OpenClaim.goesBy Program.goesAt Program.goesFrom
  rw [hs]
  have h1 := goes_none h
  cases P.funcNamed c.func with
  | none => rfl
  | some f => simp [h1]
theorem cf5 : false = Rows.sessionNoneRow.goesBy Tryz.prog := goesBy_none noneGoes rfl
end Go.Proofs.YthogkihfbjbghaaGreatDoor
