/- the tie, fact by fact. -/
import Derived.Test.YthogkihfbjbghaaGreatDoorRows
import Derived.LaidByTextLater
import Derived.SevenTiedAt
namespace Go.Proofs.YthogkihfbjbghaaGreatDoor
open Go
abbrev laidL : List (String × DataW Unit) := [("strconv.ErrSyntax", Rows.laid_strconv_ErrSyntax), ("strconv.ErrRange", Rows.laid_strconv_ErrRange), ("internal/strconv.uint64pow10", Rows.laid_internal_strconv_uint64pow10), ("math/bits.deBruijn32tab", Rows.laid_math_bits_deBruijn32tab), ("math/bits.deBruijn64tab", Rows.laid_math_bits_deBruijn64tab)]
theorem tieA1 : Tryz.prog.worded (varsWordLater true) = true := by kernel_rfl
theorem tieA2 : Tryz.prog.worded (varsWordLater !true) = false := by kernel_rfl
theorem tieA3 : Tryz.prog.worded rootWordLater = true := by kernel_rfl
theorem tieA4 : laidL.map (fun x => Tryz.prog.kindOfLater x.1) = [LaidKind.sentinel, .sentinel, .data, .data, .data].map some := by kernel_rfl
theorem tieA5 : (Tryz.prog.funcNamed "gosem.cut.vars").isSome = true := by kernel_rfl
end Go.Proofs.YthogkihfbjbghaaGreatDoor
