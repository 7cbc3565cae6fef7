/-
  No cell of these rows narrows 'for every input' (looked for: loops, veiled, ifaces, maps, wideKeys, modest, calm, conditions, laid).
  DERIVED. THE GIVEN ROWS OF THIS SEAT. 6 by the template 'for every input the law returns true; each argument reads behind the call as it read before'; 0 by the template 'total and deterministic' (their statements: YtkhcdnehfiopgaaTotals.lean).
  GIVEN WITH THE SEED: the statements are not yours to turn. If you find one false, say at which input.
  Laid BY PROGRAM, IN A SANDBOX (cutbox-rows.mjs): the forced cells as the released guide's own fill.sh prints them over the translation 370ac100f52a9628… (all of the seat's roots in one cut). By AI agents, Wed Nov 11 2026. No macro, syntax, notation, axiom, sorry.
-/
import Derived.Test.YtkhcdnehfiopgaaChecked
import GoSem.Claim
import GoSem.ClaimJoined
import GoSem.ClaimMapViews
import Derived.JoinedTies
import Derived.KernelRfl
namespace Go.Proofs.Ytkhcdnehfiopgaa
/- THE CELL 'sum', in the pinned program and in every row, IS THE sha256 OF THE DUMP (.gsa) THAT YtkhcdnehfiopgaaProg.lean LOADS. Nothing in Lean hashes anything: it is a label: what it is worth is what the hold of that sum in a sandbox is worth. -/
noncomputable def Try.pinned : Pinned := { name := "ytkhcdnehfiopgaa", sum := "370ac100f52a96288a0653215ceafcbb66e1f3364b611f82a9a0ea4633b621a7", checked := Try.checked }
namespace Rows
def none {H : Type} : Left H := { results := [], args := [] }

/-- 'fenestralaw16.DemandChecks': WHATEVER THE INPUT: true; the input reads as it did. -/
def demandChecksSpec : ChangeSpec := { name := "demandChecks", fn := fun _ => fun
  | [d] => { results := [.lit (.bool true)], args := [d] }
  | _ => none }
def demandChecksRow : OpenClaim := { program := "ytkhcdnehfiopgaa", sum := "370ac100f52a96288a0653215ceafcbb66e1f3364b611f82a9a0ea4633b621a7", func := "fenestra/fenestralaw16.DemandChecks", spec := "demandChecks", unfollowed := true, recurses := true, apart := false }
def DemandChecksSaid : Prop := demandChecksRow.holds Try.pinned (OpenSpec.ofChange demandChecksSpec)

/-- ITS FALSE NEIGHBOUR: 'it returns false'. Refute it at one input. -/
def demandChecksWrong : ChangeSpec := { name := "demandChecks", fn := fun _ => fun
  | [d] => { results := [.lit (.bool false)], args := [d] }
  | _ => none }
def DemandChecksWrongFalsely : Prop := demandChecksRow.holds Try.pinned (OpenSpec.ofChange demandChecksWrong)

/-- 'fenestralaw16.DemandLeasts': WHATEVER THE INPUT: true; the input reads as it did. -/
def demandLeastsSpec : ChangeSpec := { name := "demandLeasts", fn := fun _ => fun
  | [d] => { results := [.lit (.bool true)], args := [d] }
  | _ => none }
def demandLeastsRow : OpenClaim := { program := "ytkhcdnehfiopgaa", sum := "370ac100f52a96288a0653215ceafcbb66e1f3364b611f82a9a0ea4633b621a7", func := "fenestra/fenestralaw16.DemandLeasts", spec := "demandLeasts", unfollowed := true, recurses := true, apart := false }
def DemandLeastsSaid : Prop := demandLeastsRow.holds Try.pinned (OpenSpec.ofChange demandLeastsSpec)

/-- ITS FALSE NEIGHBOUR: 'it returns false'. Refute it at one input. -/
def demandLeastsWrong : ChangeSpec := { name := "demandLeasts", fn := fun _ => fun
  | [d] => { results := [.lit (.bool false)], args := [d] }
  | _ => none }
def DemandLeastsWrongFalsely : Prop := demandLeastsRow.holds Try.pinned (OpenSpec.ofChange demandLeastsWrong)

/-- 'fenestralaw16.DemandLarge': WHATEVER THE INPUT: true; the input reads as it did. -/
def demandLargeSpec : ChangeSpec := { name := "demandLarge", fn := fun _ => fun
  | [d1, d2, d3] => { results := [.lit (.bool true)], args := [d1, d2, d3] }
  | _ => none }
def demandLargeRow : OpenClaim := { program := "ytkhcdnehfiopgaa", sum := "370ac100f52a96288a0653215ceafcbb66e1f3364b611f82a9a0ea4633b621a7", func := "fenestra/fenestralaw16.DemandLarge", spec := "demandLarge", unfollowed := true, recurses := true, apart := false }
def DemandLargeSaid : Prop := demandLargeRow.holds Try.pinned (OpenSpec.ofChange demandLargeSpec)

/-- ITS FALSE NEIGHBOUR: 'it returns false'. Refute it at one input. -/
def demandLargeWrong : ChangeSpec := { name := "demandLarge", fn := fun _ => fun
  | [d1, d2, d3] => { results := [.lit (.bool false)], args := [d1, d2, d3] }
  | _ => none }
def DemandLargeWrongFalsely : Prop := demandLargeRow.holds Try.pinned (OpenSpec.ofChange demandLargeWrong)

/-- 'fenestralaw16.DemandHoles': WHATEVER THE INPUT: true; the input reads as it did. -/
def demandHolesSpec : ChangeSpec := { name := "demandHoles", fn := fun _ => fun
  | [d1, d2, d3] => { results := [.lit (.bool true)], args := [d1, d2, d3] }
  | _ => none }
def demandHolesRow : OpenClaim := { program := "ytkhcdnehfiopgaa", sum := "370ac100f52a96288a0653215ceafcbb66e1f3364b611f82a9a0ea4633b621a7", func := "fenestra/fenestralaw16.DemandHoles", spec := "demandHoles", unfollowed := true, recurses := true, apart := false }
def DemandHolesSaid : Prop := demandHolesRow.holds Try.pinned (OpenSpec.ofChange demandHolesSpec)

/-- ITS FALSE NEIGHBOUR: 'it returns false'. Refute it at one input. -/
def demandHolesWrong : ChangeSpec := { name := "demandHoles", fn := fun _ => fun
  | [d1, d2, d3] => { results := [.lit (.bool false)], args := [d1, d2, d3] }
  | _ => none }
def DemandHolesWrongFalsely : Prop := demandHolesRow.holds Try.pinned (OpenSpec.ofChange demandHolesWrong)

/-- 'fenestralaw16.DemandSlacks': WHATEVER THE INPUT: true; the input reads as it did. -/
def demandSlacksSpec : ChangeSpec := { name := "demandSlacks", fn := fun _ => fun
  | [d] => { results := [.lit (.bool true)], args := [d] }
  | _ => none }
def demandSlacksRow : OpenClaim := { program := "ytkhcdnehfiopgaa", sum := "370ac100f52a96288a0653215ceafcbb66e1f3364b611f82a9a0ea4633b621a7", func := "fenestra/fenestralaw16.DemandSlacks", spec := "demandSlacks", unfollowed := true, recurses := true, apart := false }
def DemandSlacksSaid : Prop := demandSlacksRow.holds Try.pinned (OpenSpec.ofChange demandSlacksSpec)

/-- ITS FALSE NEIGHBOUR: 'it returns false'. Refute it at one input. -/
def demandSlacksWrong : ChangeSpec := { name := "demandSlacks", fn := fun _ => fun
  | [d] => { results := [.lit (.bool false)], args := [d] }
  | _ => none }
def DemandSlacksWrongFalsely : Prop := demandSlacksRow.holds Try.pinned (OpenSpec.ofChange demandSlacksWrong)

/-- 'fenestralaw16.DemandLoads': WHATEVER THE INPUT: true; the input reads as it did. -/
def demandLoadsSpec : ChangeSpec := { name := "demandLoads", fn := fun _ => fun
  | [d] => { results := [.lit (.bool true)], args := [d] }
  | _ => none }
def demandLoadsRow : OpenClaim := { program := "ytkhcdnehfiopgaa", sum := "370ac100f52a96288a0653215ceafcbb66e1f3364b611f82a9a0ea4633b621a7", func := "fenestra/fenestralaw16.DemandLoads", spec := "demandLoads", inPlace := ["math/bits.Add64"], unfollowed := true, recurses := true, apart := false }
def DemandLoadsSaid : Prop := demandLoadsRow.holds Try.pinned (OpenSpec.ofChange demandLoadsSpec)

/-- ITS FALSE NEIGHBOUR: 'it returns false'. Refute it at one input. -/
def demandLoadsWrong : ChangeSpec := { name := "demandLoads", fn := fun _ => fun
  | [d] => { results := [.lit (.bool false)], args := [d] }
  | _ => none }
def DemandLoadsWrongFalsely : Prop := demandLoadsRow.holds Try.pinned (OpenSpec.ofChange demandLoadsWrong)

/- THE SECOND FORM. 'bulk': how many values and letters a reading holds, each counted each time it is reached (what is shared counts as often as it is met; a slice's spare places count too). A statement '..UptoSaid' is the law's where the arguments, and the package variables that the reading takes, are together of bulk at most 1048576: NARROWER than '..Said'. Prove '..Said' where nothing that the law and all that it calls make is longer than what came in: it says more and counts as full. Else prove '..UptoSaid'. A law counts once. -/
mutual
def uptoBulk {H : Type} : DataW H → Nat
  | .lit (.string bytes) => bytes.length + 1
  | .lit _ => 1
  | .nil => 1
  | .ptr d => uptoBulk d + 1
  | .slice elems spare => uptoBulkAll elems + uptoBulkAll spare + 1
  | .agg parts => uptoBulkAll parts + 1
  | .iface _ d => uptoBulk d + 1
  | .map entries => uptoBulkEntries entries + 1
  | .held _ => 1
def uptoBulkAll {H : Type} : List (DataW H) → Nat
  | [] => 0
  | d :: r => uptoBulk d + uptoBulkAll r
def uptoBulkEntries {H : Type} : List (Lit × DataW H) → Nat
  | [] => 0
  | x :: r => uptoBulkEntry x + uptoBulkEntries r
def uptoBulkEntry {H : Type} : Lit × DataW H → Nat
  | (.string bytes, d) => bytes.length + uptoBulk d + 1
  | (_, d) => uptoBulk d + 1
 end
def uptoSmall : (H : Type) → List (DataW H) → Bool := fun _ ds => decide (uptoBulkAll ds ≤ 1048576)
def OpenSpec.upto (s : _root_.Go.ChangeSpec) : _root_.Go.OpenSpec := { _root_.Go.OpenSpec.ofChange s with cond := some uptoSmall }

/-- 'fenestralaw16.DemandChecks', WHERE WHAT IT READS IS OF BULK AT MOST 1048576: true; the input reads as it did. -/
def demandChecksUptoRow : OpenClaim := { program := "ytkhcdnehfiopgaa", sum := "370ac100f52a96288a0653215ceafcbb66e1f3364b611f82a9a0ea4633b621a7", func := "fenestra/fenestralaw16.DemandChecks", spec := "demandChecks", unfollowed := true, recurses := true, apart := false, narrowed := true }
def DemandChecksUptoSaid : Prop := demandChecksUptoRow.holds Try.pinned (OpenSpec.upto demandChecksSpec)

/-- 'fenestralaw16.DemandLeasts', WHERE WHAT IT READS IS OF BULK AT MOST 1048576: true; the input reads as it did. -/
def demandLeastsUptoRow : OpenClaim := { program := "ytkhcdnehfiopgaa", sum := "370ac100f52a96288a0653215ceafcbb66e1f3364b611f82a9a0ea4633b621a7", func := "fenestra/fenestralaw16.DemandLeasts", spec := "demandLeasts", unfollowed := true, recurses := true, apart := false, narrowed := true }
def DemandLeastsUptoSaid : Prop := demandLeastsUptoRow.holds Try.pinned (OpenSpec.upto demandLeastsSpec)

/-- 'fenestralaw16.DemandLarge', WHERE WHAT IT READS IS OF BULK AT MOST 1048576: true; the input reads as it did. -/
def demandLargeUptoRow : OpenClaim := { program := "ytkhcdnehfiopgaa", sum := "370ac100f52a96288a0653215ceafcbb66e1f3364b611f82a9a0ea4633b621a7", func := "fenestra/fenestralaw16.DemandLarge", spec := "demandLarge", unfollowed := true, recurses := true, apart := false, narrowed := true }
def DemandLargeUptoSaid : Prop := demandLargeUptoRow.holds Try.pinned (OpenSpec.upto demandLargeSpec)

/-- 'fenestralaw16.DemandHoles', WHERE WHAT IT READS IS OF BULK AT MOST 1048576: true; the input reads as it did. -/
def demandHolesUptoRow : OpenClaim := { program := "ytkhcdnehfiopgaa", sum := "370ac100f52a96288a0653215ceafcbb66e1f3364b611f82a9a0ea4633b621a7", func := "fenestra/fenestralaw16.DemandHoles", spec := "demandHoles", unfollowed := true, recurses := true, apart := false, narrowed := true }
def DemandHolesUptoSaid : Prop := demandHolesUptoRow.holds Try.pinned (OpenSpec.upto demandHolesSpec)

/-- 'fenestralaw16.DemandSlacks', WHERE WHAT IT READS IS OF BULK AT MOST 1048576: true; the input reads as it did. -/
def demandSlacksUptoRow : OpenClaim := { program := "ytkhcdnehfiopgaa", sum := "370ac100f52a96288a0653215ceafcbb66e1f3364b611f82a9a0ea4633b621a7", func := "fenestra/fenestralaw16.DemandSlacks", spec := "demandSlacks", unfollowed := true, recurses := true, apart := false, narrowed := true }
def DemandSlacksUptoSaid : Prop := demandSlacksUptoRow.holds Try.pinned (OpenSpec.upto demandSlacksSpec)

/-- 'fenestralaw16.DemandLoads', WHERE WHAT IT READS IS OF BULK AT MOST 1048576: true; the input reads as it did. -/
def demandLoadsUptoRow : OpenClaim := { program := "ytkhcdnehfiopgaa", sum := "370ac100f52a96288a0653215ceafcbb66e1f3364b611f82a9a0ea4633b621a7", func := "fenestra/fenestralaw16.DemandLoads", spec := "demandLoads", inPlace := ["math/bits.Add64"], unfollowed := true, recurses := true, apart := false, narrowed := true }
def DemandLoadsUptoSaid : Prop := demandLoadsUptoRow.holds Try.pinned (OpenSpec.upto demandLoadsSpec)

end Rows
end Go.Proofs.Ytkhcdnehfiopgaa
