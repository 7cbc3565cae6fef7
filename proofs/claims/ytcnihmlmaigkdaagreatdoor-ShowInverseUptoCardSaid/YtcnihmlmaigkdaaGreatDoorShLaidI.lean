/- What the listed variables of the library hold, for the walks; the start in which they hold it (chapter 08, ShowInverse). -/
import Derived.Test.YtcnihmlmaigkdaaGreatDoorRows
import Derived.Test.YtcnihmlmaigkdaaGreatDoorMNuParse
import Derived.Lib.LaidTab
import Derived.LaidMore
import Derived.MakeChecks
import Derived.Stop.LaidErr
namespace Go.Proofs.YtcnihmlmaigkdaaGreatDoor
open Go.ChangeShapes Go.WideShapes Go.RowKit Go.Lib

def laidL : List (String × DataW Unit) := [("math/bits.deBruijn32tab", Rows.laid_math_bits_deBruijn32tab), ("math/bits.deBruijn64tab", Rows.laid_math_bits_deBruijn64tab), ("internal/strconv.uint64pow10", Rows.laid_internal_strconv_uint64pow10), ("strconv.ErrRange", Rows.laid_strconv_ErrRange), ("strconv.ErrSyntax", Rows.laid_strconv_ErrSyntax)]
theorem door_met (os : Os) (args : Array Value) : laidMetH Tryz.prog laidL ((World.doorLaid Tryz.prog 72 os).forCall (fun _ _ => 0) ⟨#[], args, []⟩).memory :=
  laidMetH_of_parts3 (fuel := 8) (laidMet_of_run' 8 (by kernel_rfl) (by kernel_rfl)) (by kernel_rfl) (by kernel_rfl)
theorem g10 : Tryz.prog.globalNamed "internal/strconv.uint64pow10" = some 1 := by kernel_rfl
theorem g64 : Tryz.prog.globalNamed "math/bits.deBruijn64tab" = some 5 := by kernel_rfl
theorem gSyn : Tryz.prog.globalNamed "strconv.ErrSyntax" = some 6 := by kernel_rfl
theorem gRan : Tryz.prog.globalNamed "strconv.ErrRange" = some 7 := by kernel_rfl
theorem t10 : (Tryz.prog.globals[1]?).map (·.type) = some 304 := by kernel_rfl
theorem t64 : (Tryz.prog.globals[5]?).map (·.type) = some 382 := by kernel_rfl
theorem tSyn : (Tryz.prog.globals[6]?).map (·.type) = some 101 := by kernel_rfl
theorem tRan : (Tryz.prog.globals[7]?).map (·.type) = some 101 := by kernel_rfl
theorem starE : "*" ++ "errors.errorString" = "*errors.errorString" := by decide
theorem rowErr (u : TypeId) (h : Tryz.prog.typeName? 3 u = some "*errors.errorString") : u = 458 :=
  typeName_ptr_named (nm := "errors.errorString") (by rw [starE]; kernel_rfl) (by kernel_rfl) (by decide) u (by rw [starE]; exact h)
theorem vars_of_laid {W : World} (h : laidMetH Tryz.prog laidL W) : Vars W := by
  rw [MakeChecks.laidMetH_plain _ _ _ (by kernel_rfl)] at h
  have h1 := h.tail
  have h2 := h1.tail
  have h3 := h2.tail
  have h4 := h3.tail
  refine ⟨Lib.tabIs_of_head g10 t10 Tryz.underlying304 Tryz.underlying22 (by kernel_rfl) (by kernel_rfl) h2, ?_, ?_, ?_⟩
  · have ht := Lib.tabIs_of_head (zs := [0, 1, 56, 2, 57, 49, 28, 3, 61, 58, 42, 50, 38, 29, 17, 4, 62, 47, 59, 36, 45, 43, 51, 22, 53, 39, 33, 30, 24, 18, 12, 5, 63, 55, 48, 27, 60, 41, 37, 16, 46, 35, 44, 21, 52, 32, 23, 11, 54, 26, 40, 15, 34, 20, 31, 10, 25, 14, 19, 9, 13, 8, 7, 6]) g64 t64 Tryz.underlying382 Tryz.underlying5 (by kernel_rfl) (by kernel_rfl) h1
    exact ht.cell g64 15 (by decide)
  · obtain ⟨a, s, hv, _⟩ := laid_sentinel h4 gSyn tSyn Tryz.underlying101 rowErr Tryz.underlying458 Tryz.underlying460 rfl rfl Tryz.underlying9 (by kernel_rfl) (by kernel_rfl)
    have hc := World.var?_cell gSyn hv 0
    exact ⟨_, _, by simpa using hc⟩
  · obtain ⟨a, s, hv, _⟩ := laid_sentinel h3 gRan tRan Tryz.underlying101 rowErr Tryz.underlying458 Tryz.underlying460 rfl rfl Tryz.underlying9 (by kernel_rfl) (by kernel_rfl)
    have hc := World.var?_cell gRan hv 0
    exact ⟨_, _, by simpa using hc⟩
end Go.Proofs.YtcnihmlmaigkdaaGreatDoor
