/-
  No cell of these rows narrows 'for every input' (looked for: loops, veiled, ifaces, maps, wideKeys, modest, calm, conditions, laid).
  DERIVED. THE GIVEN ROWS OF THIS SEAT. 6 by the template 'for every input the law returns true; each argument reads behind the call as it read before'; 0 by the template 'total and deterministic' (their statements: YtmphookgaopdlaaGreatTotals.lean).
  GIVEN WITH THE SEED: the statements are not yours to turn. If you find one false, say at which input.
  Laid BY PROGRAM, IN A SANDBOX (cutbox-rows.mjs): the forced cells as the released guide's own fill.sh prints them over the translation ca975590ff50f32b… (all of the seat's roots in one cut). By AI agents, Wed Nov 11 2026. No macro, syntax, notation, axiom, sorry.
-/
import Derived.Test.YtmphookgaopdlaaGreatChecked
import GoSem.Claim
import GoSem.ClaimJoined
import GoSem.ClaimMapViews
import Derived.JoinedTies
import Derived.KernelRfl
namespace Go.Proofs.YtmphookgaopdlaaGreat
/- THE CELL 'sum', in the pinned program and in every row, IS THE sha256 OF THE DUMP (.gsa) THAT YtmphookgaopdlaaGreatProg.lean LOADS. Nothing in Lean hashes anything: it is a label: what it is worth is what the hold of that sum in a sandbox is worth. -/
noncomputable def Tryz.pinned : Pinned := { name := "ytmphookgaopdlaagreat", sum := "ca975590ff50f32b8019881a5cd0b11390b6a5b7e8c984e1e584e5680df756fb", checked := Tryz.checked }
namespace Rows
def none {H : Type} : Left H := { results := [], args := [] }

/-- 'fenestralaw21.SchedLookups': WHATEVER THE INPUT: true; the input reads as it did. -/
def schedLookupsSpec : ChangeSpec := { name := "schedLookups", fn := fun _ => fun
  | [d1, d2] => { results := [.lit (.bool true)], args := [d1, d2] }
  | _ => none }
def schedLookupsRow : OpenClaim := { program := "ytmphookgaopdlaagreat", sum := "ca975590ff50f32b8019881a5cd0b11390b6a5b7e8c984e1e584e5680df756fb", func := "fenestra/fenestralaw21.SchedLookups", spec := "schedLookups", inPlace := ["math/bits.Add64"], unfollowed := true, recurses := true, plainKeys := false, apart := false }
def SchedLookupsSaid : Prop := schedLookupsRow.holds Tryz.pinned (OpenSpec.ofChange schedLookupsSpec)

/-- ITS FALSE NEIGHBOUR: 'it returns false'. Refute it at one input. -/
def schedLookupsWrong : ChangeSpec := { name := "schedLookups", fn := fun _ => fun
  | [d1, d2] => { results := [.lit (.bool false)], args := [d1, d2] }
  | _ => none }
def SchedLookupsWrongFalsely : Prop := schedLookupsRow.holds Tryz.pinned (OpenSpec.ofChange schedLookupsWrong)

/-- 'fenestralaw21.SchedUntils': WHATEVER THE INPUT: true; the input reads as it did. -/
def schedUntilsSpec : ChangeSpec := { name := "schedUntils", fn := fun _ => fun
  | [d1, d2, d3] => { results := [.lit (.bool true)], args := [d1, d2, d3] }
  | _ => none }
def schedUntilsRow : OpenClaim := { program := "ytmphookgaopdlaagreat", sum := "ca975590ff50f32b8019881a5cd0b11390b6a5b7e8c984e1e584e5680df756fb", func := "fenestra/fenestralaw21.SchedUntils", spec := "schedUntils", inPlace := ["math/bits.Add64"], unfollowed := true, recurses := true, plainKeys := false, apart := false }
def SchedUntilsSaid : Prop := schedUntilsRow.holds Tryz.pinned (OpenSpec.ofChange schedUntilsSpec)

/-- ITS FALSE NEIGHBOUR: 'it returns false'. Refute it at one input. -/
def schedUntilsWrong : ChangeSpec := { name := "schedUntils", fn := fun _ => fun
  | [d1, d2, d3] => { results := [.lit (.bool false)], args := [d1, d2, d3] }
  | _ => none }
def SchedUntilsWrongFalsely : Prop := schedUntilsRow.holds Tryz.pinned (OpenSpec.ofChange schedUntilsWrong)

/-- 'fenestralaw21.SchedNext': WHATEVER THE INPUT: true; the input reads as it did. -/
def schedNextSpec : ChangeSpec := { name := "schedNext", fn := fun _ => fun
  | [d1, d2, d3] => { results := [.lit (.bool true)], args := [d1, d2, d3] }
  | _ => none }
def schedNextRow : OpenClaim := { program := "ytmphookgaopdlaagreat", sum := "ca975590ff50f32b8019881a5cd0b11390b6a5b7e8c984e1e584e5680df756fb", func := "fenestra/fenestralaw21.SchedNext", spec := "schedNext", inPlace := ["math/bits.Add64"], unfollowed := true, recurses := true, plainKeys := false, apart := false }
def SchedNextSaid : Prop := schedNextRow.holds Tryz.pinned (OpenSpec.ofChange schedNextSpec)

/-- ITS FALSE NEIGHBOUR: 'it returns false'. Refute it at one input. -/
def schedNextWrong : ChangeSpec := { name := "schedNext", fn := fun _ => fun
  | [d1, d2, d3] => { results := [.lit (.bool false)], args := [d1, d2, d3] }
  | _ => none }
def SchedNextWrongFalsely : Prop := schedNextRow.holds Tryz.pinned (OpenSpec.ofChange schedNextWrong)

/-- 'fenestralaw21.SchedRepeats': WHATEVER THE INPUT: true; the input reads as it did. -/
def schedRepeatsSpec : ChangeSpec := { name := "schedRepeats", fn := fun _ => fun
  | [d1, d2] => { results := [.lit (.bool true)], args := [d1, d2] }
  | _ => none }
def schedRepeatsRow : OpenClaim := { program := "ytmphookgaopdlaagreat", sum := "ca975590ff50f32b8019881a5cd0b11390b6a5b7e8c984e1e584e5680df756fb", func := "fenestra/fenestralaw21.SchedRepeats", spec := "schedRepeats", inPlace := ["math/bits.Add64"], unfollowed := true, recurses := true, plainKeys := false, apart := false }
def SchedRepeatsSaid : Prop := schedRepeatsRow.holds Tryz.pinned (OpenSpec.ofChange schedRepeatsSpec)

/-- ITS FALSE NEIGHBOUR: 'it returns false'. Refute it at one input. -/
def schedRepeatsWrong : ChangeSpec := { name := "schedRepeats", fn := fun _ => fun
  | [d1, d2] => { results := [.lit (.bool false)], args := [d1, d2] }
  | _ => none }
def SchedRepeatsWrongFalsely : Prop := schedRepeatsRow.holds Tryz.pinned (OpenSpec.ofChange schedRepeatsWrong)

/-- 'fenestralaw21.SchedCounts': WHATEVER THE INPUT: true; the input reads as it did. -/
def schedCountsSpec : ChangeSpec := { name := "schedCounts", fn := fun _ => fun
  | [d1, d2] => { results := [.lit (.bool true)], args := [d1, d2] }
  | _ => none }
def schedCountsRow : OpenClaim := { program := "ytmphookgaopdlaagreat", sum := "ca975590ff50f32b8019881a5cd0b11390b6a5b7e8c984e1e584e5680df756fb", func := "fenestra/fenestralaw21.SchedCounts", spec := "schedCounts", inPlace := ["math/bits.Add64"], unfollowed := true, recurses := true, plainKeys := false, apart := false }
def SchedCountsSaid : Prop := schedCountsRow.holds Tryz.pinned (OpenSpec.ofChange schedCountsSpec)

/-- ITS FALSE NEIGHBOUR: 'it returns false'. Refute it at one input. -/
def schedCountsWrong : ChangeSpec := { name := "schedCounts", fn := fun _ => fun
  | [d1, d2] => { results := [.lit (.bool false)], args := [d1, d2] }
  | _ => none }
def SchedCountsWrongFalsely : Prop := schedCountsRow.holds Tryz.pinned (OpenSpec.ofChange schedCountsWrong)

/-- 'fenestralaw21.SchedTraces': WHATEVER THE INPUT: true; the input reads as it did. -/
def schedTracesSpec : ChangeSpec := { name := "schedTraces", fn := fun _ => fun
  | [d1, d2, d3] => { results := [.lit (.bool true)], args := [d1, d2, d3] }
  | _ => none }
def schedTracesRow : OpenClaim := { program := "ytmphookgaopdlaagreat", sum := "ca975590ff50f32b8019881a5cd0b11390b6a5b7e8c984e1e584e5680df756fb", func := "fenestra/fenestralaw21.SchedTraces", spec := "schedTraces", inPlace := ["math/bits.Add64"], unfollowed := true, recurses := true, plainKeys := false, apart := false }
def SchedTracesSaid : Prop := schedTracesRow.holds Tryz.pinned (OpenSpec.ofChange schedTracesSpec)

/-- ITS FALSE NEIGHBOUR: 'it returns false'. Refute it at one input. -/
def schedTracesWrong : ChangeSpec := { name := "schedTraces", fn := fun _ => fun
  | [d1, d2, d3] => { results := [.lit (.bool false)], args := [d1, d2, d3] }
  | _ => none }
def SchedTracesWrongFalsely : Prop := schedTracesRow.holds Tryz.pinned (OpenSpec.ofChange schedTracesWrong)

/- THE SECOND FORM. 'bulk': how many values and letters a reading holds, each counted each time it is reached (what is shared counts as often as it is met; a slice's spare places count too). A statement '..UptoSaid' is the law's where the arguments, and the package variables that the reading takes, are together of bulk at most 1048576: NARROWER than '..Said'. Prove '..Said' where nothing that the law and all that it calls make is longer than what came in: it says more and counts as full. Else prove '..UptoSaid'. A law counts once. -/
mutual
def uptoBulk {H : Type} : DataW H → Nat
  | .lit (.string bytes) => bytes.length + 1
  | .lit _ => 1
  | .nil => 1
  | .ptr d => uptoBulk d + 1
  | .slice elems spare => uptoBulkAll elems + uptoBulkAll spare + 1
  | .agg parts => uptoBulkAll parts + 1
  | .iface _ d => uptoBulk d + 1
  | .map entries => uptoBulkEntries entries + 1
  | .held _ => 1
def uptoBulkAll {H : Type} : List (DataW H) → Nat
  | [] => 0
  | d :: r => uptoBulk d + uptoBulkAll r
def uptoBulkEntries {H : Type} : List (Lit × DataW H) → Nat
  | [] => 0
  | x :: r => uptoBulkEntry x + uptoBulkEntries r
def uptoBulkEntry {H : Type} : Lit × DataW H → Nat
  | (.string bytes, d) => bytes.length + uptoBulk d + 1
  | (_, d) => uptoBulk d + 1
 end
def uptoSmall : (H : Type) → List (DataW H) → Bool := fun _ ds => decide (uptoBulkAll ds ≤ 1048576)
def OpenSpec.upto (s : _root_.Go.ChangeSpec) : _root_.Go.OpenSpec := { _root_.Go.OpenSpec.ofChange s with cond := some uptoSmall }

/-- 'fenestralaw21.SchedLookups', WHERE WHAT IT READS IS OF BULK AT MOST 1048576: true; the input reads as it did. -/
def schedLookupsUptoRow : OpenClaim := { program := "ytmphookgaopdlaagreat", sum := "ca975590ff50f32b8019881a5cd0b11390b6a5b7e8c984e1e584e5680df756fb", func := "fenestra/fenestralaw21.SchedLookups", spec := "schedLookups", inPlace := ["math/bits.Add64"], unfollowed := true, recurses := true, plainKeys := false, apart := false, narrowed := true }
def SchedLookupsUptoSaid : Prop := schedLookupsUptoRow.holds Tryz.pinned (OpenSpec.upto schedLookupsSpec)

/-- 'fenestralaw21.SchedUntils', WHERE WHAT IT READS IS OF BULK AT MOST 1048576: true; the input reads as it did. -/
def schedUntilsUptoRow : OpenClaim := { program := "ytmphookgaopdlaagreat", sum := "ca975590ff50f32b8019881a5cd0b11390b6a5b7e8c984e1e584e5680df756fb", func := "fenestra/fenestralaw21.SchedUntils", spec := "schedUntils", inPlace := ["math/bits.Add64"], unfollowed := true, recurses := true, plainKeys := false, apart := false, narrowed := true }
def SchedUntilsUptoSaid : Prop := schedUntilsUptoRow.holds Tryz.pinned (OpenSpec.upto schedUntilsSpec)

/-- 'fenestralaw21.SchedNext', WHERE WHAT IT READS IS OF BULK AT MOST 1048576: true; the input reads as it did. -/
def schedNextUptoRow : OpenClaim := { program := "ytmphookgaopdlaagreat", sum := "ca975590ff50f32b8019881a5cd0b11390b6a5b7e8c984e1e584e5680df756fb", func := "fenestra/fenestralaw21.SchedNext", spec := "schedNext", inPlace := ["math/bits.Add64"], unfollowed := true, recurses := true, plainKeys := false, apart := false, narrowed := true }
def SchedNextUptoSaid : Prop := schedNextUptoRow.holds Tryz.pinned (OpenSpec.upto schedNextSpec)

/-- 'fenestralaw21.SchedRepeats', WHERE WHAT IT READS IS OF BULK AT MOST 1048576: true; the input reads as it did. -/
def schedRepeatsUptoRow : OpenClaim := { program := "ytmphookgaopdlaagreat", sum := "ca975590ff50f32b8019881a5cd0b11390b6a5b7e8c984e1e584e5680df756fb", func := "fenestra/fenestralaw21.SchedRepeats", spec := "schedRepeats", inPlace := ["math/bits.Add64"], unfollowed := true, recurses := true, plainKeys := false, apart := false, narrowed := true }
def SchedRepeatsUptoSaid : Prop := schedRepeatsUptoRow.holds Tryz.pinned (OpenSpec.upto schedRepeatsSpec)

/-- 'fenestralaw21.SchedCounts', WHERE WHAT IT READS IS OF BULK AT MOST 1048576: true; the input reads as it did. -/
def schedCountsUptoRow : OpenClaim := { program := "ytmphookgaopdlaagreat", sum := "ca975590ff50f32b8019881a5cd0b11390b6a5b7e8c984e1e584e5680df756fb", func := "fenestra/fenestralaw21.SchedCounts", spec := "schedCounts", inPlace := ["math/bits.Add64"], unfollowed := true, recurses := true, plainKeys := false, apart := false, narrowed := true }
def SchedCountsUptoSaid : Prop := schedCountsUptoRow.holds Tryz.pinned (OpenSpec.upto schedCountsSpec)

/-- 'fenestralaw21.SchedTraces', WHERE WHAT IT READS IS OF BULK AT MOST 1048576: true; the input reads as it did. -/
def schedTracesUptoRow : OpenClaim := { program := "ytmphookgaopdlaagreat", sum := "ca975590ff50f32b8019881a5cd0b11390b6a5b7e8c984e1e584e5680df756fb", func := "fenestra/fenestralaw21.SchedTraces", spec := "schedTraces", inPlace := ["math/bits.Add64"], unfollowed := true, recurses := true, plainKeys := false, apart := false, narrowed := true }
def SchedTracesUptoSaid : Prop := schedTracesUptoRow.holds Tryz.pinned (OpenSpec.upto schedTracesSpec)

end Rows
end Go.Proofs.YtmphookgaopdlaaGreat
