/- What a sum, a product, a parse comes to, as values (chapter 01). -/
import Derived.Below
import Derived.Calls
namespace Go.Proofs.Ytkhcdnehfiopgaa
open Go.RowKit

abbrev U64 (n : Nat) : Value := .int .u64 (n : Int)
def optV : Option Nat → Value
  | some n => .tuple #[.int .u64 (n : Int), .bool true]
  | none => .tuple #[.int .u64 0, .bool false]
def FoldV (r : Option Nat) (w : World) (e : Ending) (w' : World) : Prop := e = .returned (optV r) ∧ Below w.heap.size w w'
theorem optV_shape (r : Option Nat) : ∃ (m : Nat) (k : Bool), optV r = .tuple #[.int .u64 (m : Int), .bool k] := by
  cases r with
  | none => exact ⟨0, false, rfl⟩
  | some m => exact ⟨m, true, rfl⟩
end Go.Proofs.Ytkhcdnehfiopgaa
