/- Slices of bools as arguments, opened (chapter 14). -/
import Derived.Test.YtakehbljldjndaaSwFirstFn
import Derived.Test.YtakehbljldjndaaSwOpen
import Derived.Deep.Grids
namespace Go.Proofs.Ytakehbljldjndaa
open Go.RowKit Go.WideShapes Go.ChangeShapes Go.WideElems
set_option linter.unusedVariables false

section
variable {H : Type} {enc : TypeId × Value → H}
theorem open_bools {r : Reach} {b0 : Nat} {W : World} {v : Value} {d : DataW H} {ps : List MemPlace} (hval : Value.okWide Try.prog W r b0 47 v) (hd : DataW.Trod enc Try.prog W 0 (fun _ => true) true 47 v d ps) :
    ∃ (l : List Bool) (A : Option Addr) (c : Nat), v = .slice A l.length c ∧ l.length ≤ 9223372036854775807 ∧ BoArg W.heap.size A c l W := by
  obtain ⟨a0, len, cap, rfl⟩ := okWide_slice Try.underlying47 hval
  obtain ⟨fuel, hf⟩ := hd
  rcases Go.Deep.open_bools Try.underlying47 Try.underlying4 (by kernel_rfl) hf with ⟨hcs, _⟩ | ⟨a, len', cap', B, hcs, _, hl, hm, _, hi⟩
  · injection hcs with hcs
    injection hcs with h1 h2 h3
    subst h1; subst h2; subst h3
    exact ⟨[], none, 0, rfl, by simp, ⟨Reads.none_, Nat.le_refl _⟩⟩
  · injection hcs with hcs
    injection hcs with h1 h2 h3
    subst h1; subst h2; subst h3
    have hll : ((List.range len).map B).length = len := by simp
    have hmx : len ≤ 9223372036854775807 := by simp only [maxLen] at hm; omega
    refine ⟨(List.range len).map B, some a, cap, by rw [hll], by rw [hll]; exact hmx, ⟨⟨by simp, fun h0 => ⟨a, rfl, ?_, ?_⟩⟩, by rw [hll]; exact hl⟩⟩
    · have h := hi 0 (by rw [hll] at h0; omega)
      have h2 : (a.add 0).block < W.heap.size := by
        rcases Nat.lt_or_ge (a.add 0).block W.heap.size with hlt | hge
        · exact hlt
        · simp [World.cell?, Array.getElem?_eq_none hge] at h
      rwa [block_of_add] at h2
    · intro j u hu
      have hjl : j < len := by
        have := (List.getElem?_eq_some_iff.1 hu).1
        simpa using this
      rw [List.getElem?_map, List.getElem?_map, List.getElem?_range hjl] at hu
      rw [hi j (by omega)]
      exact hu
end
end Go.Proofs.Ytakehbljldjndaa
