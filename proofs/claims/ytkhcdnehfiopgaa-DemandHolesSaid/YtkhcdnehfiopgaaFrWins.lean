/- Windows in a row of the call's own. -/
import Derived.Test.YtkhcdnehfiopgaaFrRef3
import Derived.Test.YtkhcdnehfiopgaaSwMem
namespace Go.Proofs.Ytkhcdnehfiopgaa
open Go.RowKit Go.Sort
set_option linter.unusedVariables false

/-- A list of windows in a row of the call's own. -/
def WinsV (out : List WinR) (w : World) (e : Ending) (w' : World) : Prop :=
  ∃ a c, e = .returned (.slice a out.length c) ∧ w'.ownsRow w.heap.size 49 3 (.slice a out.length c) out.length (out.flatMap winL) ∧ Below w.heap.size w w'
theorem win_info3 : (Try.prog.info? 49).map (fun i => (i.zero, i.size, i.bytes)) = some (some (.agg #[.int .u64 0, .int .u64 0, .int .u16 0]), 3, 24) := by kernel_rfl
theorem wn_one (s : WinR) : ∀ u ∈ winL s, u.oneCell' = true := by
  intro u hu
  unfold winL at hu
  simp only [List.mem_cons, List.not_mem_nil, or_false] at hu
  rcases hu with rfl | rfl | rfl <;> rfl
theorem wn_cells_at (w : World) (s : WinR) (t : TypeId) (g : Nat) (hg : g = w.heap.size) : ∀ j u, (winL s)[j]? = some u → (w.alloc (.cells #[.int .u64 (s.st : Int), .int .u64 (s.len : Int), .int .u16 (s.part : Int)] t)).cell? ((⟨g, 0, none⟩ : Addr).add j) = some u := by
  subst hg
  intro j u hu
  have hb := Blk.new w t #[.int .u64 (s.st : Int), .int .u64 (s.len : Int), .int .u16 (s.part : Int)]
  rw [addr_plain, Nat.zero_add, hb.cell, ← Array.getElem?_toList]
  exact hu
theorem Boxed1.drewB {w W : World} {c : Cfg} (h : Boxed1 w c W) : Boxed1 w c W.drew := ⟨h.1.drew, h.2⟩
def AscW (l : List WinR) : Prop := l.Pairwise fun a b => a.st ≤ b.st
end Go.Proofs.Ytkhcdnehfiopgaa
