/-
  DERIVED. GIVEN WITH THE SEED: THE CARDS: each row of YtjkglbgenbnjoaaGreatDoorRows.lean that lists a variable, with what it lists TIED to the program's text (the seventh form; the later family's looks); each row that meets fmt, with fmt's text TOLD by the authors' own Lean function (tested against real Go, not proved from fmt's source: count such statements apart). THE CARD IS WHAT COUNTS. Prove the row's statement (the work); the ties are given (YtjkglbgenbnjoaaGreatDoorTie.lean); close each card by the builder's one call (the guide's Derived/Test/ToyasCard.lean, 'card_holds'). Laid BY PROGRAM, IN A SANDBOX (cutbox-door.mjs). By AI agents, Wed Nov 11 2026. No macro, syntax, notation, axiom, sorry.
-/
import Derived.Test.YtjkglbgenbnjoaaGreatDoorRows
import GoSem.ClaimSeven
namespace Go.Proofs.YtjkglbgenbnjoaaGreatDoor
namespace Rows

/-- THE TIED CARD OF 'fenestralaw06.LexLong'. -/
def lexLongCard : Claim7 := { stood := { row := lexLongRow, standIns := [], harness := (true, "42858ba0b81b0caca8fb72fc52025a017c72f8917b1d5c50c70779b2d4cc444d"), looks := true }, kinds := [], alts := [], laidByText := true, laidKinds := [.data, .data, .data, .sentinel, .sentinel], laidTests := true, laidLooks := .later }
def LexLongCardSaid : Prop := Claim7.holds Tryz.pinned (.plain (OpenSpec.ofChange lexLongSpec)) lexLongCard

/-- THE SECOND FORM's CARD OF 'fenestralaw06.LexLong'. -/
def lexLongUptoCard : Claim7 := { stood := { row := lexLongUptoRow, standIns := [], harness := (true, "42858ba0b81b0caca8fb72fc52025a017c72f8917b1d5c50c70779b2d4cc444d"), looks := true }, kinds := [], alts := [], laidByText := true, laidKinds := [.data, .data, .data, .sentinel, .sentinel], laidTests := true, laidLooks := .later }
def LexLongUptoCardSaid : Prop := Claim7.holds Tryz.pinned (.plain (OpenSpec.upto lexLongSpec)) lexLongUptoCard
end Rows
end Go.Proofs.YtjkglbgenbnjoaaGreatDoor
