/- The walk of sweep.Gaps (chapter 14). -/
import Derived.Test.YtmphookgaopdlaaGreatSwVis
import Derived.Test.YtmphookgaopdlaaGreatSwGaps
import Derived.Lib.MinMax
import Derived.Laws.EntriesVeiled
namespace Go.Proofs.YtmphookgaopdlaaGreat
open Go.RowKit Go.Sort
set_option linter.unusedVariables false

def gset (B : Nat) (R : Option Nat) (k : Nat) : Prop := (B ≤ k ∧ k < B + 5) ∨ R = some k
section
variable {B total : Nat} {g : GSt} {R : Option Nat} {w w' : World} {M : Nat → Prop}
end
theorem span_info3 : (Tryz.prog.info? 133).map (fun i => (i.zero, i.size, i.bytes)) = some (some (.agg #[.int .u64 0, .int .u64 0]), 2, 16) := by kernel_rfl
theorem sp_one (s : Nat × Nat) : ∀ u ∈ spL s, u.oneCell' = true := by
  intro u hu
  simp only [spL, List.mem_cons, List.not_mem_nil, or_false] at hu
  rcases hu with rfl | rfl <;> rfl
theorem sp_cells (w : World) (s : Nat × Nat) (t : TypeId) : ∀ j u, (spL s)[j]? = some u → (w.alloc (.cells #[.int .u64 (s.1 : Int), .int .u64 (s.2 : Int)] t)).cell? ((⟨w.heap.size, 0, none⟩ : Addr).add j) = some u := by
  intro j u h
  have e : ((⟨w.heap.size, 0, none⟩ : Addr).add j) = ⟨w.heap.size, j, none⟩ := by unfold Addr.add; split <;> simp_all
  rw [e, (Blk.new w t _).cell j, ← Array.getElem?_toList]
  exact h
theorem wrap_succ (L : Nat) (h : L < 18446744073709551615) : IntKind.u64.wrap ((L : Int) + 1) = ((L + 1 : Nat) : Int) := by
  simp only [IntKind.wrap, IntKind.bits, IntKind.signed]; simp; omega
theorem gadd_len (e : Nat) (g : GSt) : (gadd e g).out.length ≤ g.out.length + 1 := by
  unfold gadd; split <;> simp
theorem gstep_small (total : Nat) (g : GSt) (x : Itm) (h : g.next < 18446744073709551616) : (gstep total g x).out.length ≤ g.out.length + 1 ∧ (gstep total g x).next < 18446744073709551616 := by
  have h1 := gadd_len (min x.lo total) g
  have h2 := (gadd_next (min x.lo total) g).1
  have h3 := lastI_lt x
  unfold gstep
  split
  · exact ⟨h1, by show (gadd (min x.lo total) g).next < _; rw [h2]; exact h⟩
  · exact ⟨h1, by show max g.next (lastI x + 1) < _; omega⟩
theorem gfold_small (total : Nat) : ∀ (V : List Itm) (g : GSt), g.next < 18446744073709551616 → (V.foldl (gstep total) g).out.length ≤ g.out.length + V.length ∧ (V.foldl (gstep total) g).next < 18446744073709551616 := by
  intro V
  induction V with
  | nil => intro g h; exact ⟨Nat.le_refl _, h⟩
  | cons x V ih =>
    intro g h
    obtain ⟨h1, h2⟩ := gstep_small total g x h
    obtain ⟨h3, h4⟩ := ih _ h2
    rw [List.foldl_cons, List.length_cons]
    exact ⟨by omega, h4⟩
theorem gaps0_small (total : Nat) (V : List Itm) : (gaps0 total V).out.length ≤ V.length ∧ (gaps0 total V).next < 18446744073709551616 := by
  have := gfold_small total V ⟨[], 0, false⟩ (by show 0 < _; omega)
  simpa [gaps0] using this
def GapsV (out : List (Nat × Nat)) (w : World) (e : Ending) (w' : World) : Prop :=
  ∃ a c, e = .returned (.slice a out.length c) ∧ w'.ownsRow w.heap.size 133 2 (.slice a out.length c) out.length (out.flatMap spL) ∧ Below w.heap.size w w'
end Go.Proofs.YtmphookgaopdlaaGreat
