/- What the listed tables of the library hold, for the walks; the start in which they hold it (chapter 08, ShowLines). -/
import Derived.Test.YtcnihmlmaigkdaaGreatDoorRows
import Derived.Test.YtcnihmlmaigkdaaGreatDoorMNuParse
import Derived.Lib.LaidTab
import Derived.LaidMore
import Derived.Lay
import Derived.MakeChecks
import Derived.Stop.LaidErr
namespace Go.Proofs.YtcnihmlmaigkdaaGreatDoor
open Go.ChangeShapes Go.WideShapes Go.RowKit Go.Lib

def laidT : List (String × DataW Unit) := [("math/bits.deBruijn32tab", Rows.laid_math_bits_deBruijn32tab), ("math/bits.deBruijn64tab", Rows.laid_math_bits_deBruijn64tab), ("internal/strconv.uint64pow10", Rows.laid_internal_strconv_uint64pow10), ("unicode/utf8.acceptRanges", Rows.laid_unicode_utf8_acceptRanges), ("unicode/utf8.first", Rows.laid_unicode_utf8_first)]
theorem door_metT (os : Os) (args : Array Value) : laidMetH Tryz.prog laidT ((World.laidAll Tryz.prog os laidT).forCall (fun _ _ => 0) ⟨#[], args, []⟩).memory := by
  rw [MakeChecks.laidMetH_plain _ _ _ (by kernel_rfl)]
  exact laidMet_laidAll _ (by kernel_rfl) (by kernel_rfl)
theorem gT10 : Tryz.prog.globalNamed "internal/strconv.uint64pow10" = some 1 := by kernel_rfl
theorem gT64 : Tryz.prog.globalNamed "math/bits.deBruijn64tab" = some 5 := by kernel_rfl
theorem tT10 : (Tryz.prog.globals[1]?).map (·.type) = some 304 := by kernel_rfl
theorem tT64 : (Tryz.prog.globals[5]?).map (·.type) = some 382 := by kernel_rfl
theorem vart_of_laid {W : World} (h : laidMetH Tryz.prog laidT W) : VarT W := by
  rw [MakeChecks.laidMetH_plain _ _ _ (by kernel_rfl)] at h
  have h1 := h.tail
  have h2 := h1.tail
  refine ⟨Lib.tabIs_of_head gT10 tT10 Tryz.underlying304 Tryz.underlying22 (by kernel_rfl) (by kernel_rfl) h2, ?_⟩
  have ht := Lib.tabIs_of_head (zs := [0, 1, 56, 2, 57, 49, 28, 3, 61, 58, 42, 50, 38, 29, 17, 4, 62, 47, 59, 36, 45, 43, 51, 22, 53, 39, 33, 30, 24, 18, 12, 5, 63, 55, 48, 27, 60, 41, 37, 16, 46, 35, 44, 21, 52, 32, 23, 11, 54, 26, 40, 15, 34, 20, 31, 10, 25, 14, 19, 9, 13, 8, 7, 6]) gT64 tT64 Tryz.underlying382 Tryz.underlying5 (by kernel_rfl) (by kernel_rfl) h1
  exact ht.cell gT64 15 (by decide)
end Go.Proofs.YtcnihmlmaigkdaaGreatDoor
