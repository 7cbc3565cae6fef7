/-
  DERIVED. GIVEN WITH THE SEED: THE CARDS: each row of YtpagiomachamkaaDoorRows.lean that lists a variable, with what it lists TIED to the program's text (the seventh form; the later family's looks); each row that meets fmt, with fmt's text TOLD by the authors' own Lean function (tested against real Go, not proved from fmt's source: count such statements apart). THE CARD IS WHAT COUNTS. Prove the row's statement (the work); the ties are given (YtpagiomachamkaaDoorTie.lean); close each card by the builder's one call (the guide's Derived/Test/ToyasCard.lean, 'card_holds'). Laid BY PROGRAM, IN A SANDBOX (cutbox-door.mjs). By AI agents, Wed Nov 11 2026. No macro, syntax, notation, axiom, sorry.
-/
import Derived.Test.YtpagiomachamkaaDoorRows
import GoSem.ClaimSeven
namespace Go.Proofs.YtpagiomachamkaaDoor
namespace Rows

/-- THE TIED CARD OF 'fenestralaw01.NumAdds'. -/
def numAddsCard : Claim7 := { stood := { row := numAddsRow, standIns := [], harness := (true, "8d031aea7737817bba75b36b4d0d5a9d1755d0466edd4dea50c6dbd35843dda9"), looks := true }, kinds := [], alts := [], laidByText := true, laidKinds := [.data, .data, .data, .sentinel, .sentinel], laidTests := true, laidLooks := .later }
def NumAddsCardSaid : Prop := Claim7.holds Tryd.pinned (.plain (OpenSpec.ofChange numAddsSpec)) numAddsCard

/-- THE TIED CARD OF 'fenestralaw01.NumForms'. -/
def numFormsCard : Claim7 := { stood := { row := numFormsRow, standIns := [], harness := (true, "8d031aea7737817bba75b36b4d0d5a9d1755d0466edd4dea50c6dbd35843dda9"), looks := true }, kinds := [], alts := [], laidByText := true, laidKinds := [.data, .data, .data, .sentinel, .sentinel], laidTests := true, laidLooks := .later }
def NumFormsCardSaid : Prop := Claim7.holds Tryd.pinned (.plain (OpenSpec.ofChange numFormsSpec)) numFormsCard

/-- THE TIED CARD OF 'fenestralaw01.NumMultiples'. -/
def numMultiplesCard : Claim7 := { stood := { row := numMultiplesRow, standIns := [], harness := (true, "8d031aea7737817bba75b36b4d0d5a9d1755d0466edd4dea50c6dbd35843dda9"), looks := true }, kinds := [], alts := [], laidByText := true, laidKinds := [.data, .data, .data, .sentinel, .sentinel], laidTests := true, laidLooks := .later }
def NumMultiplesCardSaid : Prop := Claim7.holds Tryd.pinned (.plain (OpenSpec.ofChange numMultiplesSpec)) numMultiplesCard

/-- THE TIED CARD OF 'fenestralaw01.NumAligns'. -/
def numAlignsCard : Claim7 := { stood := { row := numAlignsRow, standIns := [], harness := (true, "8d031aea7737817bba75b36b4d0d5a9d1755d0466edd4dea50c6dbd35843dda9"), looks := true }, kinds := [], alts := [], laidByText := true, laidKinds := [.data, .data, .data, .sentinel, .sentinel], laidTests := true, laidLooks := .later }
def NumAlignsCardSaid : Prop := Claim7.holds Tryd.pinned (.plain (OpenSpec.ofChange numAlignsSpec)) numAlignsCard

/-- THE TIED CARD OF 'fenestralaw01.NumMultiplies'. -/
def numMultipliesCard : Claim7 := { stood := { row := numMultipliesRow, standIns := [], harness := (true, "8d031aea7737817bba75b36b4d0d5a9d1755d0466edd4dea50c6dbd35843dda9"), looks := true }, kinds := [], alts := [], laidByText := true, laidKinds := [.data, .data, .data, .sentinel, .sentinel], laidTests := true, laidLooks := .later }
def NumMultipliesCardSaid : Prop := Claim7.holds Tryd.pinned (.plain (OpenSpec.ofChange numMultipliesSpec)) numMultipliesCard

/-- THE TIED CARD OF 'fenestralaw01.NumDivides'. -/
def numDividesCard : Claim7 := { stood := { row := numDividesRow, standIns := [], harness := (true, "8d031aea7737817bba75b36b4d0d5a9d1755d0466edd4dea50c6dbd35843dda9"), looks := true }, kinds := [], alts := [], laidByText := true, laidKinds := [.data, .data, .data, .sentinel, .sentinel], laidTests := true, laidLooks := .later }
def NumDividesCardSaid : Prop := Claim7.holds Tryd.pinned (.plain (OpenSpec.ofChange numDividesSpec)) numDividesCard

/-- THE SECOND FORM's CARD OF 'fenestralaw01.NumAdds'. -/
def numAddsUptoCard : Claim7 := { stood := { row := numAddsUptoRow, standIns := [], harness := (true, "8d031aea7737817bba75b36b4d0d5a9d1755d0466edd4dea50c6dbd35843dda9"), looks := true }, kinds := [], alts := [], laidByText := true, laidKinds := [.data, .data, .data, .sentinel, .sentinel], laidTests := true, laidLooks := .later }
def NumAddsUptoCardSaid : Prop := Claim7.holds Tryd.pinned (.plain (OpenSpec.upto numAddsSpec)) numAddsUptoCard

/-- THE SECOND FORM's CARD OF 'fenestralaw01.NumForms'. -/
def numFormsUptoCard : Claim7 := { stood := { row := numFormsUptoRow, standIns := [], harness := (true, "8d031aea7737817bba75b36b4d0d5a9d1755d0466edd4dea50c6dbd35843dda9"), looks := true }, kinds := [], alts := [], laidByText := true, laidKinds := [.data, .data, .data, .sentinel, .sentinel], laidTests := true, laidLooks := .later }
def NumFormsUptoCardSaid : Prop := Claim7.holds Tryd.pinned (.plain (OpenSpec.upto numFormsSpec)) numFormsUptoCard

/-- THE SECOND FORM's CARD OF 'fenestralaw01.NumMultiples'. -/
def numMultiplesUptoCard : Claim7 := { stood := { row := numMultiplesUptoRow, standIns := [], harness := (true, "8d031aea7737817bba75b36b4d0d5a9d1755d0466edd4dea50c6dbd35843dda9"), looks := true }, kinds := [], alts := [], laidByText := true, laidKinds := [.data, .data, .data, .sentinel, .sentinel], laidTests := true, laidLooks := .later }
def NumMultiplesUptoCardSaid : Prop := Claim7.holds Tryd.pinned (.plain (OpenSpec.upto numMultiplesSpec)) numMultiplesUptoCard

/-- THE SECOND FORM's CARD OF 'fenestralaw01.NumAligns'. -/
def numAlignsUptoCard : Claim7 := { stood := { row := numAlignsUptoRow, standIns := [], harness := (true, "8d031aea7737817bba75b36b4d0d5a9d1755d0466edd4dea50c6dbd35843dda9"), looks := true }, kinds := [], alts := [], laidByText := true, laidKinds := [.data, .data, .data, .sentinel, .sentinel], laidTests := true, laidLooks := .later }
def NumAlignsUptoCardSaid : Prop := Claim7.holds Tryd.pinned (.plain (OpenSpec.upto numAlignsSpec)) numAlignsUptoCard

/-- THE SECOND FORM's CARD OF 'fenestralaw01.NumMultiplies'. -/
def numMultipliesUptoCard : Claim7 := { stood := { row := numMultipliesUptoRow, standIns := [], harness := (true, "8d031aea7737817bba75b36b4d0d5a9d1755d0466edd4dea50c6dbd35843dda9"), looks := true }, kinds := [], alts := [], laidByText := true, laidKinds := [.data, .data, .data, .sentinel, .sentinel], laidTests := true, laidLooks := .later }
def NumMultipliesUptoCardSaid : Prop := Claim7.holds Tryd.pinned (.plain (OpenSpec.upto numMultipliesSpec)) numMultipliesUptoCard

/-- THE SECOND FORM's CARD OF 'fenestralaw01.NumDivides'. -/
def numDividesUptoCard : Claim7 := { stood := { row := numDividesUptoRow, standIns := [], harness := (true, "8d031aea7737817bba75b36b4d0d5a9d1755d0466edd4dea50c6dbd35843dda9"), looks := true }, kinds := [], alts := [], laidByText := true, laidKinds := [.data, .data, .data, .sentinel, .sentinel], laidTests := true, laidLooks := .later }
def NumDividesUptoCardSaid : Prop := Claim7.holds Tryd.pinned (.plain (OpenSpec.upto numDividesSpec)) numDividesUptoCard
end Rows
end Go.Proofs.YtpagiomachamkaaDoor
