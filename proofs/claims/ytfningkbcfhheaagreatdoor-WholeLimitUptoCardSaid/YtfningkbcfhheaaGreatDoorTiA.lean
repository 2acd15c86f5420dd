/- What the tie of this program asks, the first facts. -/
import Derived.Test.YtfningkbcfhheaaGreatDoorRows
import Derived.LaidByTextLater
import Derived.SevenTiedAt
set_option linter.unusedVariables false
set_option linter.unusedSimpArgs false
namespace Go.Proofs.YtfningkbcfhheaaGreatDoor
open Go
abbrev LL : List (String × DataW Unit) := [("unicode/utf8.acceptRanges", Rows.laid_unicode_utf8_acceptRanges), ("internal/strconv.uint64pow10", Rows.laid_internal_strconv_uint64pow10), ("math/bits.deBruijn32tab", Rows.laid_math_bits_deBruijn32tab), ("math/bits.deBruijn64tab", Rows.laid_math_bits_deBruijn64tab), ("strconv.ErrSyntax", Rows.laid_strconv_ErrSyntax), ("strconv.ErrRange", Rows.laid_strconv_ErrRange)]
abbrev KK : List LaidKind := [.data, .data, .data, .data, .sentinel, .sentinel]
theorem hw : Tryz.prog.worded (varsWordLater true) = true := by kernel_rfl
theorem hw2 : Tryz.prog.worded (varsWordLater !true) = false := by kernel_rfl
theorem hroot : Tryz.prog.worded rootWordLater = true := by kernel_rfl
theorem hk : LL.map (fun x => Tryz.prog.kindOfLater x.1) = KK.map some := by kernel_rfl
theorem hg : (Tryz.prog.funcNamed "gosem.cut.vars").isSome = true := by kernel_rfl
theorem hp : (LL.all fun x => x.2.handleName?.isNone) = true := by kernel_rfl
end Go.Proofs.YtfningkbcfhheaaGreatDoor
