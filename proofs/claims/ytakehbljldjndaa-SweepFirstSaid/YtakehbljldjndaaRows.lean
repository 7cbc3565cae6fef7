/-
  No cell of these rows narrows 'for every input' (looked for: loops, veiled, ifaces, maps, wideKeys, modest, calm, conditions, laid).
  DERIVED. THE GIVEN ROWS OF THIS SEAT. 6 by the template 'for every input the law returns true; each argument reads behind the call as it read before'; 0 by the template 'total and deterministic' (their statements: YtakehbljldjndaaTotals.lean).
  GIVEN WITH THE SEED: the statements are not yours to turn. If you find one false, say at which input.
  Laid BY PROGRAM, IN A SANDBOX (cutbox-rows.mjs): the forced cells as the released guide's own fill.sh prints them over the translation 98ec55e7fb1e8c78… (all of the seat's roots in one cut). By AI agents, Wed Nov 11 2026. No macro, syntax, notation, axiom, sorry.
-/
import Derived.Test.YtakehbljldjndaaChecked
import GoSem.Claim
import GoSem.ClaimJoined
import GoSem.ClaimMapViews
import Derived.JoinedTies
import Derived.KernelRfl
namespace Go.Proofs.Ytakehbljldjndaa
/- THE CELL 'sum', in the pinned program and in every row, IS THE sha256 OF THE DUMP (.gsa) THAT YtakehbljldjndaaProg.lean LOADS. Nothing in Lean hashes anything: it is a label: what it is worth is what the hold of that sum in a sandbox is worth. -/
noncomputable def Try.pinned : Pinned := { name := "ytakehbljldjndaa", sum := "98ec55e7fb1e8c785a2c516c826744b4e640c873eb55ed54cd1da3c2e4ad09f8", checked := Try.checked }
namespace Rows
def none {H : Type} : Left H := { results := [], args := [] }

/-- 'fenestralaw14.SweepPairs': WHATEVER THE INPUT: true; the input reads as it did. -/
def sweepPairsSpec : ChangeSpec := { name := "sweepPairs", fn := fun _ => fun
  | [d] => { results := [.lit (.bool true)], args := [d] }
  | _ => none }
def sweepPairsRow : OpenClaim := { program := "ytakehbljldjndaa", sum := "98ec55e7fb1e8c785a2c516c826744b4e640c873eb55ed54cd1da3c2e4ad09f8", func := "fenestra/fenestralaw14.SweepPairs", spec := "sweepPairs", unfollowed := true, recurses := true, apart := false }
def SweepPairsSaid : Prop := sweepPairsRow.holds Try.pinned (OpenSpec.ofChange sweepPairsSpec)

/-- ITS FALSE NEIGHBOUR: 'it returns false'. Refute it at one input. -/
def sweepPairsWrong : ChangeSpec := { name := "sweepPairs", fn := fun _ => fun
  | [d] => { results := [.lit (.bool false)], args := [d] }
  | _ => none }
def SweepPairsWrongFalsely : Prop := sweepPairsRow.holds Try.pinned (OpenSpec.ofChange sweepPairsWrong)

/-- 'fenestralaw14.SweepDepths': WHATEVER THE INPUT: true; the input reads as it did. -/
def sweepDepthsSpec : ChangeSpec := { name := "sweepDepths", fn := fun _ => fun
  | [d] => { results := [.lit (.bool true)], args := [d] }
  | _ => none }
def sweepDepthsRow : OpenClaim := { program := "ytakehbljldjndaa", sum := "98ec55e7fb1e8c785a2c516c826744b4e640c873eb55ed54cd1da3c2e4ad09f8", func := "fenestra/fenestralaw14.SweepDepths", spec := "sweepDepths", unfollowed := true, recurses := true, apart := false }
def SweepDepthsSaid : Prop := sweepDepthsRow.holds Try.pinned (OpenSpec.ofChange sweepDepthsSpec)

/-- ITS FALSE NEIGHBOUR: 'it returns false'. Refute it at one input. -/
def sweepDepthsWrong : ChangeSpec := { name := "sweepDepths", fn := fun _ => fun
  | [d] => { results := [.lit (.bool false)], args := [d] }
  | _ => none }
def SweepDepthsWrongFalsely : Prop := sweepDepthsRow.holds Try.pinned (OpenSpec.ofChange sweepDepthsWrong)

/-- 'fenestralaw14.SweepGaps': WHATEVER THE INPUT: true; the input reads as it did. -/
def sweepGapsSpec : ChangeSpec := { name := "sweepGaps", fn := fun _ => fun
  | [d1, d2] => { results := [.lit (.bool true)], args := [d1, d2] }
  | _ => none }
def sweepGapsRow : OpenClaim := { program := "ytakehbljldjndaa", sum := "98ec55e7fb1e8c785a2c516c826744b4e640c873eb55ed54cd1da3c2e4ad09f8", func := "fenestra/fenestralaw14.SweepGaps", spec := "sweepGaps", unfollowed := true, recurses := true, apart := false }
def SweepGapsSaid : Prop := sweepGapsRow.holds Try.pinned (OpenSpec.ofChange sweepGapsSpec)

/-- ITS FALSE NEIGHBOUR: 'it returns false'. Refute it at one input. -/
def sweepGapsWrong : ChangeSpec := { name := "sweepGaps", fn := fun _ => fun
  | [d1, d2] => { results := [.lit (.bool false)], args := [d1, d2] }
  | _ => none }
def SweepGapsWrongFalsely : Prop := sweepGapsRow.holds Try.pinned (OpenSpec.ofChange sweepGapsWrong)

/-- 'fenestralaw14.SweepMeets': WHATEVER THE INPUT: true; the input reads as it did. -/
def sweepMeetsSpec : ChangeSpec := { name := "sweepMeets", fn := fun _ => fun
  | [d1, d2] => { results := [.lit (.bool true)], args := [d1, d2] }
  | _ => none }
def sweepMeetsRow : OpenClaim := { program := "ytakehbljldjndaa", sum := "98ec55e7fb1e8c785a2c516c826744b4e640c873eb55ed54cd1da3c2e4ad09f8", func := "fenestra/fenestralaw14.SweepMeets", spec := "sweepMeets", unfollowed := true, recurses := true, apart := false }
def SweepMeetsSaid : Prop := sweepMeetsRow.holds Try.pinned (OpenSpec.ofChange sweepMeetsSpec)

/-- ITS FALSE NEIGHBOUR: 'it returns false'. Refute it at one input. -/
def sweepMeetsWrong : ChangeSpec := { name := "sweepMeets", fn := fun _ => fun
  | [d1, d2] => { results := [.lit (.bool false)], args := [d1, d2] }
  | _ => none }
def SweepMeetsWrongFalsely : Prop := sweepMeetsRow.holds Try.pinned (OpenSpec.ofChange sweepMeetsWrong)

/-- 'fenestralaw14.SweepOrder': WHATEVER THE INPUT: true; the input reads as it did. -/
def sweepOrderSpec : ChangeSpec := { name := "sweepOrder", fn := fun _ => fun
  | [d1, d2] => { results := [.lit (.bool true)], args := [d1, d2] }
  | _ => none }
def sweepOrderRow : OpenClaim := { program := "ytakehbljldjndaa", sum := "98ec55e7fb1e8c785a2c516c826744b4e640c873eb55ed54cd1da3c2e4ad09f8", func := "fenestra/fenestralaw14.SweepOrder", spec := "sweepOrder", unfollowed := true, recurses := true, apart := false }
def SweepOrderSaid : Prop := sweepOrderRow.holds Try.pinned (OpenSpec.ofChange sweepOrderSpec)

/-- ITS FALSE NEIGHBOUR: 'it returns false'. Refute it at one input. -/
def sweepOrderWrong : ChangeSpec := { name := "sweepOrder", fn := fun _ => fun
  | [d1, d2] => { results := [.lit (.bool false)], args := [d1, d2] }
  | _ => none }
def SweepOrderWrongFalsely : Prop := sweepOrderRow.holds Try.pinned (OpenSpec.ofChange sweepOrderWrong)

/-- 'fenestralaw14.SweepFirst': WHATEVER THE INPUT: true; the input reads as it did. -/
def sweepFirstSpec : ChangeSpec := { name := "sweepFirst", fn := fun _ => fun
  | [d1, d2] => { results := [.lit (.bool true)], args := [d1, d2] }
  | _ => none }
def sweepFirstRow : OpenClaim := { program := "ytakehbljldjndaa", sum := "98ec55e7fb1e8c785a2c516c826744b4e640c873eb55ed54cd1da3c2e4ad09f8", func := "fenestra/fenestralaw14.SweepFirst", spec := "sweepFirst", unfollowed := true, recurses := true, apart := false }
def SweepFirstSaid : Prop := sweepFirstRow.holds Try.pinned (OpenSpec.ofChange sweepFirstSpec)

/-- ITS FALSE NEIGHBOUR: 'it returns false'. Refute it at one input. -/
def sweepFirstWrong : ChangeSpec := { name := "sweepFirst", fn := fun _ => fun
  | [d1, d2] => { results := [.lit (.bool false)], args := [d1, d2] }
  | _ => none }
def SweepFirstWrongFalsely : Prop := sweepFirstRow.holds Try.pinned (OpenSpec.ofChange sweepFirstWrong)

/- THE SECOND FORM. 'bulk': how many values and letters a reading holds, each counted each time it is reached (what is shared counts as often as it is met; a slice's spare places count too). A statement '..UptoSaid' is the law's where the arguments, and the package variables that the reading takes, are together of bulk at most 1048576: NARROWER than '..Said'. Prove '..Said' where nothing that the law and all that it calls make is longer than what came in: it says more and counts as full. Else prove '..UptoSaid'. A law counts once. -/
mutual
def uptoBulk {H : Type} : DataW H → Nat
  | .lit (.string bytes) => bytes.length + 1
  | .lit _ => 1
  | .nil => 1
  | .ptr d => uptoBulk d + 1
  | .slice elems spare => uptoBulkAll elems + uptoBulkAll spare + 1
  | .agg parts => uptoBulkAll parts + 1
  | .iface _ d => uptoBulk d + 1
  | .map entries => uptoBulkEntries entries + 1
  | .held _ => 1
def uptoBulkAll {H : Type} : List (DataW H) → Nat
  | [] => 0
  | d :: r => uptoBulk d + uptoBulkAll r
def uptoBulkEntries {H : Type} : List (Lit × DataW H) → Nat
  | [] => 0
  | x :: r => uptoBulkEntry x + uptoBulkEntries r
def uptoBulkEntry {H : Type} : Lit × DataW H → Nat
  | (.string bytes, d) => bytes.length + uptoBulk d + 1
  | (_, d) => uptoBulk d + 1
 end
def uptoSmall : (H : Type) → List (DataW H) → Bool := fun _ ds => decide (uptoBulkAll ds ≤ 1048576)
def OpenSpec.upto (s : _root_.Go.ChangeSpec) : _root_.Go.OpenSpec := { _root_.Go.OpenSpec.ofChange s with cond := some uptoSmall }

/-- 'fenestralaw14.SweepPairs', WHERE WHAT IT READS IS OF BULK AT MOST 1048576: true; the input reads as it did. -/
def sweepPairsUptoRow : OpenClaim := { program := "ytakehbljldjndaa", sum := "98ec55e7fb1e8c785a2c516c826744b4e640c873eb55ed54cd1da3c2e4ad09f8", func := "fenestra/fenestralaw14.SweepPairs", spec := "sweepPairs", unfollowed := true, recurses := true, apart := false, narrowed := true }
def SweepPairsUptoSaid : Prop := sweepPairsUptoRow.holds Try.pinned (OpenSpec.upto sweepPairsSpec)

/-- 'fenestralaw14.SweepDepths', WHERE WHAT IT READS IS OF BULK AT MOST 1048576: true; the input reads as it did. -/
def sweepDepthsUptoRow : OpenClaim := { program := "ytakehbljldjndaa", sum := "98ec55e7fb1e8c785a2c516c826744b4e640c873eb55ed54cd1da3c2e4ad09f8", func := "fenestra/fenestralaw14.SweepDepths", spec := "sweepDepths", unfollowed := true, recurses := true, apart := false, narrowed := true }
def SweepDepthsUptoSaid : Prop := sweepDepthsUptoRow.holds Try.pinned (OpenSpec.upto sweepDepthsSpec)

/-- 'fenestralaw14.SweepGaps', WHERE WHAT IT READS IS OF BULK AT MOST 1048576: true; the input reads as it did. -/
def sweepGapsUptoRow : OpenClaim := { program := "ytakehbljldjndaa", sum := "98ec55e7fb1e8c785a2c516c826744b4e640c873eb55ed54cd1da3c2e4ad09f8", func := "fenestra/fenestralaw14.SweepGaps", spec := "sweepGaps", unfollowed := true, recurses := true, apart := false, narrowed := true }
def SweepGapsUptoSaid : Prop := sweepGapsUptoRow.holds Try.pinned (OpenSpec.upto sweepGapsSpec)

/-- 'fenestralaw14.SweepMeets', WHERE WHAT IT READS IS OF BULK AT MOST 1048576: true; the input reads as it did. -/
def sweepMeetsUptoRow : OpenClaim := { program := "ytakehbljldjndaa", sum := "98ec55e7fb1e8c785a2c516c826744b4e640c873eb55ed54cd1da3c2e4ad09f8", func := "fenestra/fenestralaw14.SweepMeets", spec := "sweepMeets", unfollowed := true, recurses := true, apart := false, narrowed := true }
def SweepMeetsUptoSaid : Prop := sweepMeetsUptoRow.holds Try.pinned (OpenSpec.upto sweepMeetsSpec)

/-- 'fenestralaw14.SweepOrder', WHERE WHAT IT READS IS OF BULK AT MOST 1048576: true; the input reads as it did. -/
def sweepOrderUptoRow : OpenClaim := { program := "ytakehbljldjndaa", sum := "98ec55e7fb1e8c785a2c516c826744b4e640c873eb55ed54cd1da3c2e4ad09f8", func := "fenestra/fenestralaw14.SweepOrder", spec := "sweepOrder", unfollowed := true, recurses := true, apart := false, narrowed := true }
def SweepOrderUptoSaid : Prop := sweepOrderUptoRow.holds Try.pinned (OpenSpec.upto sweepOrderSpec)

/-- 'fenestralaw14.SweepFirst', WHERE WHAT IT READS IS OF BULK AT MOST 1048576: true; the input reads as it did. -/
def sweepFirstUptoRow : OpenClaim := { program := "ytakehbljldjndaa", sum := "98ec55e7fb1e8c785a2c516c826744b4e640c873eb55ed54cd1da3c2e4ad09f8", func := "fenestra/fenestralaw14.SweepFirst", spec := "sweepFirst", unfollowed := true, recurses := true, apart := false, narrowed := true }
def SweepFirstUptoSaid : Prop := sweepFirstUptoRow.holds Try.pinned (OpenSpec.upto sweepFirstSpec)

end Rows
end Go.Proofs.Ytakehbljldjndaa
