/- What the rows' lists of package-level variables give the walks of package text. -/
import Derived.Test.YtfiddoibnjildaaGreatDoorLaidA
import Derived.Test.YtfiddoibnjildaaGreatDoorTextB
namespace Go.Proofs.YtfiddoibnjildaaGreatDoor
set_option linter.unusedSimpArgs false
set_option linter.unusedVariables false
open Go Go.RowKit Go.ChangeShapes Go.WideShapes Go.ChangeAt

theorem g_asp : Tryz.prog.globalNamed "strings.asciiSpace" = some 0 := by kernel_rfl
theorem t_asp : (Tryz.prog.globals[0]?).map (·.type) = some 97 := by kernel_rfl
theorem c_u8 : Tryz.prog.cellsOf 5 = 1 := by kernel_rfl
theorem c_asp : Tryz.prog.cellsOf 97 = 256 := by kernel_rfl
theorem asp_datum : (Rows.laid_strings_asciiSpace : DataW Unit) = Lib.tabData .u8 Lib.asciiSpaceTab := by kernel_rfl
theorem tabsT_of_laid {rest : List (String × DataW Unit)} {W : World} (h : laidMet Tryz.prog (("math/bits.deBruijn32tab", Rows.laid_math_bits_deBruijn32tab) :: ("math/bits.deBruijn64tab", Rows.laid_math_bits_deBruijn64tab) :: ("internal/strconv.uint64pow10", Rows.laid_internal_strconv_uint64pow10) :: ("unicode/utf8.acceptRanges", Rows.laid_unicode_utf8_acceptRanges) :: ("strconv.ErrRange", Rows.laid_strconv_ErrRange) :: ("strconv.ErrSyntax", Rows.laid_strconv_ErrSyntax) :: ("unicode.White_Space", Rows.laid_unicode_White_Space) :: ("strings.asciiSpace", Rows.laid_strings_asciiSpace) :: rest) W)
    (hsh : W.ShapedOpen Tryz.prog) : TabsT W := by
  have h8 := h.tail.tail.tail.tail.tail.tail.tail
  rw [asp_datum] at h8
  exact ⟨tabs_of_laid h hsh, Lib.tabIs_of_head g_asp t_asp Tryz.underlying97 Tryz.underlying5 c_u8 c_asp h8⟩
end Go.Proofs.YtfiddoibnjildaaGreatDoor
