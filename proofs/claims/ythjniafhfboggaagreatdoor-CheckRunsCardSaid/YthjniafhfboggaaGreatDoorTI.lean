/- What the listed variables hold is what the program lays: the seat's tie, each closed fact by itself. No premise. -/
import Derived.Test.YthjniafhfboggaaGreatDoorRows
import Derived.LaidByTextLater
import Derived.SevenTiedAt
import Derived.LaidSub
import Derived.LaidOnce
namespace Go.Proofs.YthjniafhfboggaaGreatDoor
open Go
set_option maxRecDepth 100000
def tieL : List (String × DataW Unit) := [("internal/strconv.uint64pow10", Rows.laid_internal_strconv_uint64pow10), ("math/bits.deBruijn32tab", Rows.laid_math_bits_deBruijn32tab), ("math/bits.deBruijn64tab", Rows.laid_math_bits_deBruijn64tab), ("strings.asciiSpace", Rows.laid_strings_asciiSpace), ("unicode.White_Space", Rows.laid_unicode_White_Space), ("strconv.ErrSyntax", Rows.laid_strconv_ErrSyntax), ("strconv.ErrRange", Rows.laid_strconv_ErrRange), ("errors.errorType", Rows.laid_errors_errorType)]
def tieK : List LaidKind := [.data, .data, .data, .data, .listed, .sentinel, .sentinel, .handle]
theorem tie1 : Tryz.prog.worded (varsWordLater true) = true := by kernel_rfl
theorem tie2 : Tryz.prog.worded (varsWordLater !true) = false := by kernel_rfl
theorem tie3 : Tryz.prog.worded rootWordLater = true := by kernel_rfl
theorem tie4 : tieL.map (fun x => Tryz.prog.kindOfLater x.1) = tieK.map some := by kernel_rfl
theorem tie5 : (Tryz.prog.funcNamed "gosem.cut.vars").isSome = true := by kernel_rfl
theorem tie6 : varsNamedLaterB Tryz.prog (varsId Tryz.prog) tieL = true := by kernel_rfl
theorem tie7 : ∀ os tape, doorLeaves Tryz.prog 400 8 1000 tieL os tape = some (tieL.filter fun x => x.2.handleName?.isNone, (funcsListed tieL).map (·.2.funcsOut)) := fun _ _ => by kernel_rfl
theorem seatTie1 : Tryz.prog.laidByTextLater tieL tieK true := Program.laidByTextLater_by_one 400 8 1000 tie1 tie2 tie3 tie4 tie5 tie6 tie7
theorem noOwnUnsafe : Tryz.pinned.checked.prog.headLifts.contains "ownunsafe" = false := by kernel_rfl
theorem tie : Tryz.prog.laidByTextLater [("internal/strconv.uint64pow10", Rows.laid_internal_strconv_uint64pow10), ("math/bits.deBruijn32tab", Rows.laid_math_bits_deBruijn32tab), ("math/bits.deBruijn64tab", Rows.laid_math_bits_deBruijn64tab), ("strings.asciiSpace", Rows.laid_strings_asciiSpace), ("unicode.White_Space", Rows.laid_unicode_White_Space), ("strconv.ErrSyntax", Rows.laid_strconv_ErrSyntax), ("strconv.ErrRange", Rows.laid_strconv_ErrRange), ("errors.errorType", Rows.laid_errors_errorType)] [.data, .data, .data, .data, .listed, .sentinel, .sentinel, .handle] true := seatTie1
theorem checkRuns_row_tie : Rows.checkRunsRow.laidByTextAt .later Tryz.pinned [.data, .data, .data, .data, .listed, .sentinel, .sentinel, .handle] true :=
  OpenClaim.laidByTextAt_later rfl rfl tie noOwnUnsafe
theorem checkRunsUpto_row_tie : Rows.checkRunsUptoRow.laidByTextAt .later Tryz.pinned [.data, .data, .data, .data, .listed, .sentinel, .sentinel, .handle] true :=
  OpenClaim.laidByTextAt_later rfl rfl tie noOwnUnsafe
end Go.Proofs.YthjniafhfboggaaGreatDoor
