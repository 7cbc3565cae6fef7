/- Spans, slices of spans, slices of bools, as arguments, opened (chapter 14). -/
import Derived.Test.YtakehbljldjndaaPost
import Derived.Test.YtakehbljldjndaaSwMem
import Derived.Deep.Slices
import Derived.Deep.Fields
import Derived.ChangeSame
import Derived.Lib.SmallJoins
namespace Go.Proofs.Ytakehbljldjndaa
open Go.RowKit Go.WideShapes Go.ChangeShapes Go.WideElems Go.Deep Go.Joins
set_option linter.unusedVariables false

section
variable {H : Type} {enc : TypeId × Value → H}
theorem nat_of_u64 {z : Int} (h : (Lit.int .u64 z).wf = true) : ∃ n : Nat, z = (n : Int) ∧ n < 18446744073709551616 := by
  have := bounds_u64 h
  exact ⟨z.toNat, by omega, by omega⟩
theorem open_span {r : Reach} {b0 : Nat} {W : World} {v : Value} {d : DataW H} {ps : List MemPlace} (hval : Value.okWide Try.prog W r b0 39 v) (hd : DataW.Trod enc Try.prog W 0 (fun _ => true) true 39 v d ps) :
    ∃ a : Nat × Nat, v = .agg #[.int .u64 (a.1 : Int), .int .u64 (a.2 : Int)] ∧ a.1 < 18446744073709551616 ∧ a.2 < 18446744073709551616 := by
  obtain ⟨x, y, y1, y2, n, rfl, _, _, h1, h2⟩ := open_agg2 Try.underlying39 (by kernel_rfl) (by kernel_rfl) hval hd
  obtain ⟨z1, e1, _, w1⟩ := DataW.trod_int Try.underlying34 h1
  obtain ⟨z2, e2, _, w2⟩ := DataW.trod_int Try.underlying34 h2
  injection e1 with e1
  injection e2 with e2
  subst e1 e2
  obtain ⟨n1, rfl, g1⟩ := nat_of_u64 w1
  obtain ⟨n2, rfl, g2⟩ := nat_of_u64 w2
  exact ⟨(n1, n2), rfl, g1, g2⟩
end
end Go.Proofs.Ytakehbljldjndaa
