/- An array of three integers, opened (chapter 15). -/
import Derived.Test.YthccadabblkalaaCf
import Derived.Laws.IdiomArrays
namespace Go.Proofs.Ythccadabblkalaa
open Go.RowKit Go.Sort Go.WideShapes Go.ChangeShapes
set_option linter.unusedVariables false
set_option linter.constructorNameAsVariable false
section
variable {H : Type} {enc : TypeId × Value → H}
set_option maxRecDepth 100000 in
theorem open_arr3 {r : Reach} {b0 : Nat} {W : World} {v : Value} {d : DataW H} {ps : List MemPlace} (hval : Value.okWide Try.prog W r b0 39 v) (hd : DataW.Trod enc Try.prog W 0 (fun _ => true) true 39 v d ps) :
    ∃ x0 x1 x2 : Nat, v = .agg #[.int .u64 (x0 : Int), .int .u64 (x1 : Int), .int .u64 (x2 : Int)] ∧ x0 < 18446744073709551616 ∧ x1 < 18446744073709551616 ∧ x2 < 18446744073709551616 := by
  obtain ⟨cs, rfl, hsz⟩ : ∃ cs, v = .agg cs ∧ cs.size = Try.prog.cellsOf 39 := by
    simp only [Value.okWide, Try.underlying39] at hval
    obtain ⟨cs, h1, h2, _⟩ := hval
    exact ⟨cs, h1, h2⟩
  have hC : Try.prog.cellsOf 39 = 3 := by kernel_rfl
  obtain ⟨l⟩ := cs
  rw [hC] at hsz
  match l, hsz with
  | [c0, c1, c2], _ =>
    obtain ⟨fuel, hf⟩ := hd
    obtain ⟨y0, y1, y2, n, _, h0, h1, h2⟩ := ChangeShapes.trod_array3 Try.underlying39 (by kernel_rfl) hf
    obtain ⟨z0, e0, _, w0⟩ := DataW.trod_int Try.underlying22 h0
    obtain ⟨z1, e1, _, w1⟩ := DataW.trod_int Try.underlying22 h1
    obtain ⟨z2, e2, _, w2⟩ := DataW.trod_int Try.underlying22 h2
    injection e0 with e0 _
    injection e1 with e1 _
    injection e2 with e2 _
    subst e0 e1 e2
    obtain ⟨a0, rfl, k0⟩ := nat_u64 w0
    obtain ⟨a1, rfl, k1⟩ := nat_u64 w1
    obtain ⟨a2, rfl, k2⟩ := nat_u64 w2
    exact ⟨a0, a1, a2, rfl, k0, k1, k2⟩
end
end Go.Proofs.Ythccadabblkalaa
