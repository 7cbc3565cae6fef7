/- The walks of the queue's methods (chapter 14). -/
import Derived.Test.YtkhcdnehfiopgaaSwMem
namespace Go.Proofs.Ytkhcdnehfiopgaa
open Go.RowKit

/-- The last number, as the machine reckons it: two equations for the walk. -/
theorem last_wrap (lo len : Nat) : ∃ S : Int, IntKind.u64.wrap ((lo : Int) + (len : Int)) = S ∧ IntKind.u64.wrap (S - 1) = (((lo + len + 18446744073709551615) % 18446744073709551616 : Nat) : Int) := by
  refine ⟨_, rfl, ?_⟩
  simp only [IntKind.wrap, IntKind.bits, IntKind.signed]
  simp
  omega
def itA (x : Itm) : Array Value := #[.int .u64 (x.lo : Int), .int .u64 (x.len : Int), .int .i64 (x.idx : Int)]
/-- An order's contract. -/
def Order (fn : Nat) (key : Itm → Nat) : Prop := ∀ (x y : Itm) (w : World), Calls Try.prog fn #[.agg (itA x), .agg (itA y)] w
    fun e w' => e = .returned (.bool (decide (key x < key y))) ∧ Below w.heap.size w w'
theorem two_kept {w W W' : World} {g h : Nat} {a b c d : Value} (hb : Below W.heap.size W W') (hs : W.cell? ⟨g, 0, none⟩ = some a ∧ W.cell? ⟨g, 1, none⟩ = some b ∧ W.cell? ⟨h, 0, none⟩ = some c ∧ W.cell? ⟨h, 1, none⟩ = some d ∧ Below w.heap.size w W) :
    W'.cell? ⟨g, 0, none⟩ = some a ∧ W'.cell? ⟨g, 1, none⟩ = some b ∧ W'.cell? ⟨h, 0, none⟩ = some c ∧ W'.cell? ⟨h, 1, none⟩ = some d ∧ Below w.heap.size w W' := by
  obtain ⟨h1, h2, h3, h4, h5⟩ := hs
  exact ⟨(hb.cell (p := ⟨g, 0, none⟩) (cell_lt h1)).trans h1, (hb.cell (p := ⟨g, 1, none⟩) (cell_lt h2)).trans h2, (hb.cell (p := ⟨h, 0, none⟩) (cell_lt h3)).trans h3, (hb.cell (p := ⟨h, 1, none⟩) (cell_lt h4)).trans h4, h5.trans (hb.mono h5.size)⟩
theorem two_new (w : World) (t : TypeId) (x y : Array Value) (a b c d : Value) (hx : x[0]? = some a ∧ x[1]? = some b) (hy : y[0]? = some c ∧ y[1]? = some d) :
    ((w.alloc (.cells x t)).alloc (.cells y t)).cell? ⟨w.heap.size, 0, none⟩ = some a ∧ ((w.alloc (.cells x t)).alloc (.cells y t)).cell? ⟨w.heap.size, 1, none⟩ = some b ∧
      ((w.alloc (.cells x t)).alloc (.cells y t)).cell? ⟨w.heap.size + 1, 0, none⟩ = some c ∧ ((w.alloc (.cells x t)).alloc (.cells y t)).cell? ⟨w.heap.size + 1, 1, none⟩ = some d ∧ Below w.heap.size w ((w.alloc (.cells x t)).alloc (.cells y t)) := by
  have h1 := (Blk.new w t x).alloc (.cells y t)
  have h2 : Blk ((w.alloc (.cells x t)).alloc (.cells y t)) (w.heap.size + 1) t y := by have := Blk.new (w.alloc (.cells x t)) t y; simpa using this
  exact ⟨(h1.cell 0).trans hx.1, (h1.cell 1).trans hx.2, (h2.cell 0).trans hy.1, (h2.cell 1).trans hy.2, ((Below.refl _ w).alloc (Nat.le_refl _) _).alloc (by simp) _⟩
theorem drew5 {w W : World} {p q r s : Addr} {a b c d : Value} (h : W.cell? p = some a ∧ W.cell? q = some b ∧ W.cell? r = some c ∧ W.cell? s = some d ∧ Below w.heap.size w W) :
    W.drew.cell? p = some a ∧ W.drew.cell? q = some b ∧ W.drew.cell? r = some c ∧ W.drew.cell? s = some d ∧ Below w.heap.size w W.drew :=
  ⟨h.1, h.2.1, h.2.2.1, h.2.2.2.1, h.2.2.2.2.drew⟩
end Go.Proofs.Ytkhcdnehfiopgaa
