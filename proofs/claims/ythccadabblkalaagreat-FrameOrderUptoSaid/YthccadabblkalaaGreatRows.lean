/-
  No cell of these rows narrows 'for every input' (looked for: loops, veiled, ifaces, maps, wideKeys, modest, calm, conditions, laid).
  DERIVED. THE GIVEN ROWS OF THIS SEAT. 2 by the template 'for every input the law returns true; each argument reads behind the call as it read before'; 0 by the template 'total and deterministic' (their statements: YthccadabblkalaaGreatTotals.lean).
  GIVEN WITH THE SEED: the statements are not yours to turn. If you find one false, say at which input.
  Laid BY PROGRAM, IN A SANDBOX (cutbox-rows.mjs): the forced cells as the released guide's own fill.sh prints them over the translation 9662db7ca9c4e1a9… (all of the seat's roots in one cut). By AI agents, Wed Nov 11 2026. No macro, syntax, notation, axiom, sorry.
-/
import Derived.Test.YthccadabblkalaaGreatChecked
import GoSem.Claim
import GoSem.ClaimJoined
import GoSem.ClaimMapViews
import Derived.JoinedTies
import Derived.KernelRfl
namespace Go.Proofs.YthccadabblkalaaGreat
/- THE CELL 'sum', in the pinned program and in every row, IS THE sha256 OF THE DUMP (.gsa) THAT YthccadabblkalaaGreatProg.lean LOADS. Nothing in Lean hashes anything: it is a label: what it is worth is what the hold of that sum in a sandbox is worth. -/
noncomputable def Tryz.pinned : Pinned := { name := "ythccadabblkalaagreat", sum := "9662db7ca9c4e1a903793f88553805dbf674498ad73c99bfe9b8fd415c1373eb", checked := Tryz.checked }
namespace Rows
def none {H : Type} : Left H := { results := [], args := [] }

/-- 'fenestralaw15.FrameIdles': WHATEVER THE INPUT: true; the input reads as it did. -/
def frameIdlesSpec : ChangeSpec := { name := "frameIdles", fn := fun _ => fun
  | [d] => { results := [.lit (.bool true)], args := [d] }
  | _ => none }
def frameIdlesRow : OpenClaim := { program := "ythccadabblkalaagreat", sum := "9662db7ca9c4e1a903793f88553805dbf674498ad73c99bfe9b8fd415c1373eb", func := "fenestra/fenestralaw15.FrameIdles", spec := "frameIdles", inPlace := ["math/bits.Add64"], unfollowed := true, recurses := true, plainKeys := false, apart := false }
def FrameIdlesSaid : Prop := frameIdlesRow.holds Tryz.pinned (OpenSpec.ofChange frameIdlesSpec)

/-- ITS FALSE NEIGHBOUR: 'it returns false'. Refute it at one input. -/
def frameIdlesWrong : ChangeSpec := { name := "frameIdles", fn := fun _ => fun
  | [d] => { results := [.lit (.bool false)], args := [d] }
  | _ => none }
def FrameIdlesWrongFalsely : Prop := frameIdlesRow.holds Tryz.pinned (OpenSpec.ofChange frameIdlesWrong)

/-- 'fenestralaw15.FrameOrder': WHATEVER THE INPUT: true; the input reads as it did. -/
def frameOrderSpec : ChangeSpec := { name := "frameOrder", fn := fun _ => fun
  | [d] => { results := [.lit (.bool true)], args := [d] }
  | _ => none }
def frameOrderRow : OpenClaim := { program := "ythccadabblkalaagreat", sum := "9662db7ca9c4e1a903793f88553805dbf674498ad73c99bfe9b8fd415c1373eb", func := "fenestra/fenestralaw15.FrameOrder", spec := "frameOrder", inPlace := ["math/bits.Add64"], unfollowed := true, recurses := true, plainKeys := false, apart := false }
def FrameOrderSaid : Prop := frameOrderRow.holds Tryz.pinned (OpenSpec.ofChange frameOrderSpec)

/-- ITS FALSE NEIGHBOUR: 'it returns false'. Refute it at one input. -/
def frameOrderWrong : ChangeSpec := { name := "frameOrder", fn := fun _ => fun
  | [d] => { results := [.lit (.bool false)], args := [d] }
  | _ => none }
def FrameOrderWrongFalsely : Prop := frameOrderRow.holds Tryz.pinned (OpenSpec.ofChange frameOrderWrong)

/- THE SECOND FORM. 'bulk': how many values and letters a reading holds, each counted each time it is reached (what is shared counts as often as it is met; a slice's spare places count too). A statement '..UptoSaid' is the law's where the arguments, and the package variables that the reading takes, are together of bulk at most 1048576: NARROWER than '..Said'. Prove '..Said' where nothing that the law and all that it calls make is longer than what came in: it says more and counts as full. Else prove '..UptoSaid'. A law counts once. -/
mutual
def uptoBulk {H : Type} : DataW H → Nat
  | .lit (.string bytes) => bytes.length + 1
  | .lit _ => 1
  | .nil => 1
  | .ptr d => uptoBulk d + 1
  | .slice elems spare => uptoBulkAll elems + uptoBulkAll spare + 1
  | .agg parts => uptoBulkAll parts + 1
  | .iface _ d => uptoBulk d + 1
  | .map entries => uptoBulkEntries entries + 1
  | .held _ => 1
def uptoBulkAll {H : Type} : List (DataW H) → Nat
  | [] => 0
  | d :: r => uptoBulk d + uptoBulkAll r
def uptoBulkEntries {H : Type} : List (Lit × DataW H) → Nat
  | [] => 0
  | x :: r => uptoBulkEntry x + uptoBulkEntries r
def uptoBulkEntry {H : Type} : Lit × DataW H → Nat
  | (.string bytes, d) => bytes.length + uptoBulk d + 1
  | (_, d) => uptoBulk d + 1
 end
def uptoSmall : (H : Type) → List (DataW H) → Bool := fun _ ds => decide (uptoBulkAll ds ≤ 1048576)
def OpenSpec.upto (s : _root_.Go.ChangeSpec) : _root_.Go.OpenSpec := { _root_.Go.OpenSpec.ofChange s with cond := some uptoSmall }

/-- 'fenestralaw15.FrameIdles', WHERE WHAT IT READS IS OF BULK AT MOST 1048576: true; the input reads as it did. -/
def frameIdlesUptoRow : OpenClaim := { program := "ythccadabblkalaagreat", sum := "9662db7ca9c4e1a903793f88553805dbf674498ad73c99bfe9b8fd415c1373eb", func := "fenestra/fenestralaw15.FrameIdles", spec := "frameIdles", inPlace := ["math/bits.Add64"], unfollowed := true, recurses := true, plainKeys := false, apart := false, narrowed := true }
def FrameIdlesUptoSaid : Prop := frameIdlesUptoRow.holds Tryz.pinned (OpenSpec.upto frameIdlesSpec)

/-- 'fenestralaw15.FrameOrder', WHERE WHAT IT READS IS OF BULK AT MOST 1048576: true; the input reads as it did. -/
def frameOrderUptoRow : OpenClaim := { program := "ythccadabblkalaagreat", sum := "9662db7ca9c4e1a903793f88553805dbf674498ad73c99bfe9b8fd415c1373eb", func := "fenestra/fenestralaw15.FrameOrder", spec := "frameOrder", inPlace := ["math/bits.Add64"], unfollowed := true, recurses := true, plainKeys := false, apart := false, narrowed := true }
def FrameOrderUptoSaid : Prop := frameOrderUptoRow.holds Tryz.pinned (OpenSpec.upto frameOrderSpec)

end Rows
end Go.Proofs.YthccadabblkalaaGreat
