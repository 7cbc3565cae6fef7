/- The walks of the reference's Last, Valid, Has, Meet and of the program's Valid and Meet (chapter 14). -/
import Derived.Test.YtcnihmlmaigkdaaGreatDoorMSwHeap
import Derived.Shelf.SlSortCmp.QuietGrown
namespace Go.Proofs.YtcnihmlmaigkdaaGreatDoor
open Go.RowKit Go.Sort
set_option linter.unusedVariables false

/-- Draws and new blocks, nothing else. -/
def Gr (w w' : World) : Prop := ∃ q os', w' = grow (w.drewN q) os'
theorem Gr.refl (w : World) : Gr w w := ⟨0, #[], by rw [grow_empty]; rfl⟩
theorem Gr.trans {a b c : World} (h : Gr a b) (k : Gr b c) : Gr a c := by
  obtain ⟨q, os, rfl⟩ := h
  obtain ⟨q2, os2, rfl⟩ := k
  exact ⟨q + q2, os ++ os2, by show grow (grow ((a.drewN q).drewN q2) os) os2 = _; rw [grow_grow, World.drewN_drewN]⟩
theorem Gr.alloc {a b : World} (h : Gr a b) (o : Obj) : Gr a (b.alloc o) := h.trans ⟨0, #[o], by rw [alloc_eq_grow]; rfl⟩
theorem Gr.drew {a b : World} (h : Gr a b) : Gr a b.drew := h.trans ⟨1, #[], by rw [grow_empty]; rfl⟩
theorem Gr.below {a b : World} (h : Gr a b) : Below a.heap.size a b := by
  obtain ⟨q, os, rfl⟩ := h
  refine ⟨rfl, rfl, rfl, by simp [grow], fun k hk => ?_⟩
  show (a.heap ++ os)[k]? = _
  rw [Array.getElem?_append_left hk]
theorem mixed_prog : Tryz.prog.follows .mixedOrders = true := by kernel_rfl

theorem ret_b {a b : Bool} (h : a = b) : Ending.returned (.bool a) = .returned (.bool b) := by rw [h]
def lastW (s : Nat × Nat) : Nat := lastI ⟨s.1, s.2, 0⟩
def spA (s : Nat × Nat) : Array Value := #[.int .u64 (s.1 : Int), .int .u64 (s.2 : Int)]
theorem last_wrap2 (lo len : Nat) : ∃ S : Int, IntKind.u64.wrap ((len : Int) - 1) = S ∧ IntKind.u64.wrap ((lo : Int) + S) = (((lo + len + 18446744073709551615) % 18446744073709551616 : Nat) : Int) := by
  refine ⟨_, rfl, ?_⟩
  simp only [IntKind.wrap, IntKind.bits, IntKind.signed]
  simp
  omega
def vldB (s : Nat × Nat) : Bool := decide (1 ≤ s.2) && decide (s.1 ≤ lastW s)
def hasB (s : Nat × Nat) (x : Nat) : Bool := decide (s.1 ≤ x) && decide (x ≤ lastW s)
def meetB (a b : Nat × Nat) : Bool := hasB a b.1 || hasB b a.1
def meetP (a b : Nat × Nat) : Bool := decide (a.1 ≤ lastW b) && decide (b.1 ≤ lastW a)
/-- A span in a new block, in the worlds of a region that only grows. -/
theorem span_gr (w : World) (t : TypeId) (lo len : Nat) (n : Nat) (os : Array Obj) :
    (grow ((w.alloc (.cells #[.int .u64 (lo : Int), .int .u64 (len : Int)] t)).drewN n) os).cell? ⟨w.heap.size, 0, none⟩ = some (.int .u64 (lo : Int)) ∧
    (grow ((w.alloc (.cells #[.int .u64 (lo : Int), .int .u64 (len : Int)] t)).drewN n) os).cell? ⟨w.heap.size, 1, none⟩ = some (.int .u64 (len : Int)) := by
  have hb := Blk.new w t #[.int .u64 (lo : Int), .int .u64 (len : Int)]
  exact ⟨cell_grown (by simp) (hb.cell 0) n os, cell_grown (by simp) (hb.cell 1) n os⟩
theorem two_spans (w : World) (t : TypeId) (a b c d : Nat) (n : Nat) (os : Array Obj) :
    (grow (((w.alloc (.cells #[.int .u64 (a : Int), .int .u64 (b : Int)] t)).alloc (.cells #[.int .u64 (c : Int), .int .u64 (d : Int)] t)).drewN n) os).cell? ⟨w.heap.size, 0, none⟩ = some (.int .u64 (a : Int)) ∧
    (grow (((w.alloc (.cells #[.int .u64 (a : Int), .int .u64 (b : Int)] t)).alloc (.cells #[.int .u64 (c : Int), .int .u64 (d : Int)] t)).drewN n) os).cell? ⟨w.heap.size, 1, none⟩ = some (.int .u64 (b : Int)) ∧
    (grow (((w.alloc (.cells #[.int .u64 (a : Int), .int .u64 (b : Int)] t)).alloc (.cells #[.int .u64 (c : Int), .int .u64 (d : Int)] t)).drewN n) os).cell? ⟨w.heap.size + 1, 0, none⟩ = some (.int .u64 (c : Int)) ∧
    (grow (((w.alloc (.cells #[.int .u64 (a : Int), .int .u64 (b : Int)] t)).alloc (.cells #[.int .u64 (c : Int), .int .u64 (d : Int)] t)).drewN n) os).cell? ⟨w.heap.size + 1, 1, none⟩ = some (.int .u64 (d : Int)) := by
  have hb := (Blk.new w t #[.int .u64 (a : Int), .int .u64 (b : Int)]).alloc (.cells #[.int .u64 (c : Int), .int .u64 (d : Int)] t)
  have hc := Blk.new (w.alloc (.cells #[.int .u64 (a : Int), .int .u64 (b : Int)] t)) t #[.int .u64 (c : Int), .int .u64 (d : Int)]
  rw [World.size_alloc] at hc
  exact ⟨cell_grown (by simp; omega) (hb.cell 0) n os, cell_grown (by simp; omega) (hb.cell 1) n os, cell_grown (by simp) (hc.cell 0) n os, cell_grown (by simp) (hc.cell 1) n os⟩
end Go.Proofs.YtcnihmlmaigkdaaGreatDoor
