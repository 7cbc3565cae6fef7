/- slices.Values and slices.Sorted at a slice of strings (chapter 04, NameSorts). -/
import Derived.Test.YtgjdhndlbhbjhaaGreatNsSort
import Derived.Test.YtgjdhndlbhbjhaaGreatNmAlive
namespace Go.Proofs.YtgjdhndlbhbjhaaGreat
open Go.RowKit Go.Maps Go.Sort Go.Shelf Go.Proofs
set_option linter.unusedVariables false

theorem sorts_wide (m : Nat) : AnyZ.SortsIn Tryz.prog Tryz.sortedS_ren Fence.wide m :=
  ⟨fun blk off cap ss W hH hblk hsz => callsIn_wide.2 (Tryz.slices_Sort_string blk off cap ss W hH hblk hsz), fun p cap W => callsIn_wide.2 (Tryz.slices_Sort_string_none p cap W)⟩
def leS (x y : List UInt8) : Bool := decide (x ≤ y)
theorem Sorted_calls (B b off cap : Nat) (zs : List (List UInt8)) (hcap : zs.length ≤ cap) (hreach : zs.length ≤ 1000000000) (w : World) (hB : B < w.heap.size) (hb : b < w.heap.size)
    (hBs : w.cell? ⟨B, 0, none⟩ = some (.slice (some ⟨b, off, none⟩) zs.length cap)) (hc : ∀ j, (h : j < zs.length) → w.cell? ⟨b, off + j, none⟩ = some (encStr zs[j])) :
    Calls Tryz.prog 12 #[.func (.func 22) #[] #[.pointer (some ⟨B, 0, none⟩)]] w fun e w' =>
      ∃ v : Value, e = .returned v ∧ w'.ownsRow w.heap.size 9 1 v zs.length ((zs.mergeSort leS).map encStr) ∧ (v = .slice none 0 0 ↔ zs = []) ∧ Below w.heap.size w w' :=
  callsIn_wide.1 (sortedB Tryz.sortedS 5 (by omega) (sorts_wide _) (enters_of Tryz.func21 (by kernel_rfl) rfl) 22 _ (enters_of Tryz.func22 (by kernel_rfl) rfl) zs (by simp only [maxLen]; omega) (by omega) w
    (values_gives _ (by omega) B b off cap zs hcap hreach w hB hb hBs hc))
set_option maxHeartbeats 1000000 in
theorem Values_calls (A : Option Addr) (n c : Nat) (w : World) :
    Calls Tryz.prog 13 #[.slice A n c] w fun e w' => e = .returned (.func (.func 22) #[] #[.pointer (some ⟨w.heap.size, 0, none⟩)]) ∧ w' = w.alloc (.cells #[.slice A n c] 22) := by
  go_enter Tryz.func13, Tryz.ntmps13
  go_wp2
  go_ret
  exact ⟨rfl, rfl⟩
end Go.Proofs.YtgjdhndlbhbjhaaGreat
