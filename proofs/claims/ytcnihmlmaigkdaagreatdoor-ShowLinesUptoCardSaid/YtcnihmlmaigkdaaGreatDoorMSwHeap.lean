/- A heap of spans, in plain words: the steps of container/heap as functions on arrays, after their Go text (chapter 14). No program in sight. Spans, items and queues in memory (chapter 14). The walks of the queue's methods (chapter 14). -/
import Derived.Sort.LotB
import Derived.Test.YtcnihmlmaigkdaaGreatDoorMMem
import Derived.Test.YtcnihmlmaigkdaaGreatDoorChecked
import Derived.WalkKit
import Derived.WalkSpells
import Derived.WalkLawsBesides
import Derived.Deep.QuietTactic
import Derived.BigQuiet
import Derived.BigGuardPart
import Derived.BigRegion
import Derived.Outline
import Derived.Deep.DeepMust
import Derived.Deep.RegionHeld3
import Derived.StillTailTactics
import Derived.Laws.AppendOwn
import Derived.Laws.StructEq
import Derived.Great.BuildSlice
import Derived.OwnWalk
import Derived.Laws.Rows
namespace Go.Proofs.YtcnihmlmaigkdaaGreatDoor
open Go.Sort

structure Itm where
  lo : Nat
  len : Nat
  idx : Nat
instance : Inhabited Itm := ⟨⟨0, 0, 0⟩⟩
def ltK (key : Itm → Nat) (x y : Itm) : Bool := decide (key y < key x)
/-- A heap: no node's key is greater than a child's. -/
def IsHeap (key : Itm → Nat) (n : Nat) (d : Array Itm) : Prop := ∀ i, i < n → Ok (ltK key) 0 n d i

/-! ### down -/
/-! ### up -/
theorem IsHeap.at_ {key : Itm → Nat} {n : Nat} {d : Array Itm} (h : IsHeap key n d) (i k : Nat) (hk : k = 2 * i + 1 ∨ k = 2 * i + 2) (hkn : k < n) : key d[i]! ≤ key d[k]! := by
  have := h i (by omega) k hk hkn
  simp only [Nat.zero_add, ltK, decide_eq_false_iff_not] at this; omega
/-! ### Init, Pop, push behind Fix -/
end Go.Proofs.YtcnihmlmaigkdaaGreatDoor
namespace Go.Proofs.YtcnihmlmaigkdaaGreatDoor
open Go.RowKit Go.WideShapes Go.ChangeShapes

section
variable {w w' : World} {Q fn : Nat} {R : Option Nat} {d : Array Itm}
end
end Go.Proofs.YtcnihmlmaigkdaaGreatDoor
namespace Go.Proofs.YtcnihmlmaigkdaaGreatDoor
open Go.RowKit

end Go.Proofs.YtcnihmlmaigkdaaGreatDoor
