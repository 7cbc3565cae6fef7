/- An array of two integers, opened (chapter 16). -/
import Derived.Test.YtkhcdnehfiopgaaCf
import Derived.Laws.IdiomArrays
namespace Go.Proofs.Ytkhcdnehfiopgaa
open Go.RowKit Go.Sort Go.WideShapes Go.ChangeShapes
set_option linter.unusedVariables false
set_option linter.constructorNameAsVariable false
section
variable {H : Type} {enc : TypeId × Value → H}
theorem trod_two {P : Program} {w : World} {base : Nat} {spare : Nat → Bool} {held : Bool} {t e : TypeId} {fuel : Nat} {c0 c1 : Value} {x : DataW H × List MemPlace} (ht : P.underlying t = some (.array 2 e)) (hce : P.cellsOf e = 1)
    (h : DataW.trod enc P w base spare held fuel t [c0, c1] = some x) :
    ∃ y0 y1 n, x = (.agg [y0.1, y1.1], y0.2 ++ y1.2) ∧ DataW.trod enc P w base spare held n e [c0] = some y0 ∧ DataW.trod enc P w base spare held n e [c1] = some y1 := by
  cases fuel with
  | zero => simp [DataW.trod] at h
  | succ n =>
    unfold DataW.trod at h
    rw [ht] at h
    have r2 : List.range 2 = [0, 1] := rfl
    simp [r2, hce] at h
    obtain ⟨_, h⟩ := h
    cases h0 : DataW.trod enc P w base spare held n e [c0] with
    | none => simp [h0] at h
    | some y0 =>
      cases h1 : DataW.trod enc P w base spare held n e [c1] with
      | none => simp [h0, h1] at h
      | some y1 =>
        simp [h0, h1] at h
        exact ⟨y0, y1, n, h.symm, h0, h1⟩
set_option maxRecDepth 100000 in
theorem open_arr2 {r : Reach} {b0 : Nat} {W : World} {v : Value} {d : DataW H} {ps : List MemPlace} (hval : Value.okWide Try.prog W r b0 51 v) (hd : DataW.Trod enc Try.prog W 0 (fun _ => true) true 51 v d ps) :
    ∃ x0 x1 : Nat, v = .agg #[.int .u32 (x0 : Int), .int .u32 (x1 : Int)] ∧ x0 < 4294967296 ∧ x1 < 4294967296 := by
  obtain ⟨cs, rfl, hsz⟩ : ∃ cs, v = .agg cs ∧ cs.size = Try.prog.cellsOf 51 := by
    simp only [Value.okWide, Try.underlying51] at hval
    obtain ⟨cs, h1, h2, _⟩ := hval
    exact ⟨cs, h1, h2⟩
  have hC : Try.prog.cellsOf 51 = 2 := by kernel_rfl
  obtain ⟨l⟩ := cs
  rw [hC] at hsz
  match l, hsz with
  | [c0, c1], _ =>
    obtain ⟨fuel, hf⟩ := hd
    obtain ⟨y0, y1, n, _, h0, h1⟩ := trod_two Try.underlying51 (by kernel_rfl) hf
    obtain ⟨z0, e0, _, w0⟩ := DataW.trod_int Try.underlying45 h0
    obtain ⟨z1, e1, _, w1⟩ := DataW.trod_int Try.underlying45 h1
    injection e0 with e0 _
    injection e1 with e1 _
    subst e0 e1
    obtain ⟨a0, rfl, k0⟩ := nat_u32 w0
    obtain ⟨a1, rfl, k1⟩ := nat_u32 w1
    exact ⟨a0, a1, rfl, k0, k1⟩
end
end Go.Proofs.Ytkhcdnehfiopgaa
