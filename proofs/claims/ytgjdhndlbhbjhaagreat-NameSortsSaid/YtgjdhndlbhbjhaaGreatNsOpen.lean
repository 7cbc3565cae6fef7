/- Slices of strings as arguments, opened (chapter 04, NameSorts). -/
import Derived.Test.YtgjdhndlbhbjhaaGreatNsTop
import Derived.Test.YtgjdhndlbhbjhaaGreatPost
import Derived.Deep.Strs
namespace Go.Proofs.YtgjdhndlbhbjhaaGreat
open Go.RowKit Go.WideShapes Go.ChangeShapes Go.WideElems Go.Sort
set_option linter.unusedVariables false

/-- A slice of strings that lies below a block. -/
def StArg (B : Nat) (A : Option Addr) (c : Nat) (l : List (List UInt8)) (w : World) : Prop := Reads w B 1 A l.length (l.map encStr) ∧ l.length ≤ c
theorem StArg.below {B c : Nat} {A : Option Addr} {l : List (List UInt8)} {w w' : World} (h : StArg B A c l w) (hb : Below B w w') : StArg B A c l w' := ⟨h.1.below hb, h.2⟩
theorem StArg.more {B B' c : Nat} {A : Option Addr} {l : List (List UInt8)} {w : World} (h : StArg B A c l w) (hB : B ≤ B') : StArg B' A c l w := ⟨h.1.more hB, h.2⟩
section
variable {H : Type} {enc : TypeId × Value → H}
set_option maxRecDepth 100000 in
theorem open_strings {r : Reach} {b0 : Nat} {W : World} {v : Value} {d : DataW H} {ps : List MemPlace} (hval : Value.okWide Tryz.prog W r b0 22 v) (hd : DataW.Trod enc Tryz.prog W 0 (fun _ => true) true 22 v d ps) :
    ∃ (l : List (List UInt8)) (A : Option Addr) (c : Nat), v = .slice A l.length c ∧ c ≤ maxLen ∧ StArg W.heap.size A c l W := by
  obtain ⟨a0, len, cap, rfl⟩ := okWide_slice Tryz.underlying22 hval
  obtain ⟨fuel, hf⟩ := hd
  rcases Go.Deep.open_strs Tryz.underlying22 Tryz.underlying9 (by kernel_rfl) hf with ⟨hcs, _⟩ | ⟨a, len', cap', m, Sx, hcs, _, hl, hm, hmm, _, hi⟩
  · injection hcs with hcs
    injection hcs with h1 h2 h3
    subst h1; subst h2; subst h3
    exact ⟨[], none, 0, rfl, Nat.zero_le _, ⟨Reads.none_, Nat.le_refl _⟩⟩
  · injection hcs with hcs
    injection hcs with h1 h2 h3
    subst h1; subst h2; subst h3
    rw [if_pos rfl] at hmm
    obtain rfl := hmm.symm
    have hll : ((List.range len).map fun i => (Sx i).data.toList).length = len := by simp
    refine ⟨(List.range len).map fun i => (Sx i).data.toList, some a, cap, by rw [hll], hm, ⟨⟨by simp, fun h0 => ⟨a, rfl, ?_, ?_⟩⟩, by rw [hll]; exact hl⟩⟩
    · have h := (hi 0 (by rw [hll] at h0; omega)).1
      have h2 : (a.add 0).block < W.heap.size := by
        rcases Nat.lt_or_ge (a.add 0).block W.heap.size with hlt | hge
        · exact hlt
        · simp [World.cell?, Array.getElem?_eq_none hge] at h
      have e : (a.add 0).block = a.block := by unfold Addr.add; simp
      rwa [e] at h2
    · intro j u hu
      have hjl : j < len := by
        have := (List.getElem?_eq_some_iff.1 hu).1
        simpa using this
      rw [List.getElem?_map, List.getElem?_map, List.getElem?_range hjl] at hu
      rw [(hi j (by omega)).1]
      exact hu
end
end Go.Proofs.YtgjdhndlbhbjhaaGreat
