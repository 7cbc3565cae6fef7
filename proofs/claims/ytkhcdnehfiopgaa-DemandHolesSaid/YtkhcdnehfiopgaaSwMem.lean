/- Spans, items and queues in memory (chapter 14). -/
import Derived.Test.YtkhcdnehfiopgaaMem
import Derived.Test.YtkhcdnehfiopgaaBut
import Derived.Test.YtkhcdnehfiopgaaSwHeap
import Derived.Test.YtkhcdnehfiopgaaChecked
import Derived.WalkKit
import Derived.WalkSpells
import Derived.WalkLawsBesides
import Derived.Deep.QuietTactic
import Derived.BigQuiet
import Derived.BigGuardPart
import Derived.BigRegion
import Derived.Outline
import Derived.Deep.DeepMust
import Derived.Deep.RegionHeld3
import Derived.StillTailTactics
import Derived.Laws.AppendOwn
import Derived.Laws.StructEq
import Derived.Great.BuildSlice
import Derived.OwnWalk
import Derived.Laws.Rows
namespace Go.Proofs.Ytkhcdnehfiopgaa
open Go.RowKit Go.WideShapes Go.ChangeShapes

/-- The first cells of a block hold the elements of a list, each in k cells. -/
def RowK (enc : Itm → List Value) (k : Nat) (cs : Array Value) (d : Array Itm) : Prop := ∀ i, i < d.size → ∀ j, j < k → cs[i * k + j]? = (enc d[i]!)[j]?
theorem rowK_take {enc : Itm → List Value} {k : Nat} (hk : ∀ x, (enc x).length = k) {cs : Array Value} {d : Array Itm} : RowK enc k cs d ↔ cs.toList.take (d.size * k) = d.toList.flatMap enc := by
  have hlen : (d.toList.flatMap enc).length = d.size * k := (flat_len enc k hk d.toList).trans (by rw [Array.length_toList])
  constructor
  · intro h
    apply List.ext_getElem?
    intro m
    by_cases hm : m < d.size * k
    · have hk0 : 0 < k := by
        rcases Nat.eq_zero_or_pos k with h0 | h0
        · rw [h0, Nat.mul_zero] at hm; omega
        · exact h0
      have e : m = m / k * k + m % k := by have := Nat.div_add_mod m k; rw [Nat.mul_comm] at this; omega
      have hi : m / k < d.size := by rw [Nat.div_lt_iff_lt_mul hk0]; exact hm
      have hj := Nat.mod_lt m hk0
      have h1 := h (m / k) hi (m % k) hj
      have h2 := flat_get enc k hk d.toList (m / k) (m % k) (by simpa using hi) hj
      rw [← e] at h1 h2
      rw [List.getElem?_take, if_pos hm, h2, Array.getElem?_toList, h1, getElem!_pos d _ hi]
      simp
    · rw [List.getElem?_eq_none (by rw [List.length_take]; omega), List.getElem?_eq_none (by rw [hlen]; omega)]
  · intro h i hi j hj
    have hm : i * k + j < d.size * k := by
      have : (i + 1) * k ≤ d.size * k := Nat.mul_le_mul_right _ hi
      rw [Nat.succ_mul] at this; omega
    have h2 := flat_get enc k hk d.toList i j (by simpa using hi) hj
    rw [← h, List.getElem?_take, if_pos hm, Array.getElem?_toList] at h2
    rw [h2, getElem!_pos d i hi]
    simp

def itL (x : Itm) : List Value := [.int .u64 (x.lo : Int), .int .u64 (x.len : Int), .int .i64 (x.idx : Int)]
theorem itL_len (x : Itm) : (itL x).length = 3 := rfl
theorem three {P : Nat → Prop} : (∀ j, j < 3 → P j) ↔ P 0 ∧ P 1 ∧ P 2 :=
  ⟨fun h => ⟨h 0 (by omega), h 1 (by omega), h 2 (by omega)⟩, fun h j hj => by
    match j, hj with
    | 0, _ => exact h.1
    | 1, _ => exact h.2.1
    | 2, _ => exact h.2.2⟩
def qset (Q : Nat) (R : Option Nat) (k : Nat) : Prop := k = Q ∨ R = some k
section
variable {w w' : World} {Q fn : Nat} {R : Option Nat} {d : Array Itm}
end
end Go.Proofs.Ytkhcdnehfiopgaa
