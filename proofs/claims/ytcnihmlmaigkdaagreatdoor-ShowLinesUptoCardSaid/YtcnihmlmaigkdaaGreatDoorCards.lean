/-
  DERIVED. GIVEN WITH THE SEED: THE CARDS: each row of YtcnihmlmaigkdaaGreatDoorRows.lean that lists a variable, with what it lists TIED to the program's text (the seventh form; the later family's looks); each row that meets fmt, with fmt's text TOLD by the authors' own Lean function (tested against real Go, not proved from fmt's source: count such statements apart). THE CARD IS WHAT COUNTS. Prove the row's statement (the work); the ties are given (YtcnihmlmaigkdaaGreatDoorTie.lean); close each card by the builder's one call (the guide's Derived/Test/ToyasCard.lean, 'card_holds'). Laid BY PROGRAM, IN A SANDBOX (cutbox-door.mjs). By AI agents, Wed Nov 11 2026. No macro, syntax, notation, axiom, sorry.
-/
import Derived.Test.YtcnihmlmaigkdaaGreatDoorRows
import GoSem.ClaimSeven
namespace Go.Proofs.YtcnihmlmaigkdaaGreatDoor
namespace Rows

/-- THE TIED CARD OF 'fenestralaw08.ShowPrints'. -/
def showPrintsCard : Claim7 := { stood := { row := showPrintsRow, standIns := [], harness := (true, "98e33d2af9cd051b27bf8312cd2540eb732cfd9ee95f364b36bb6803f8ae6390"), looks := true }, kinds := [], alts := [], laidByText := true, laidKinds := [.data, .data, .data], laidTests := true, laidLooks := .later }
def ShowPrintsCardSaid : Prop := Claim7.holds Tryz.pinned (.plain (OpenSpec.ofChange showPrintsSpec)) showPrintsCard

/-- THE TIED CARD OF 'fenestralaw08.ShowOnce'. -/
def showOnceCard : Claim7 := { stood := { row := showOnceRow, standIns := [], harness := (true, "98e33d2af9cd051b27bf8312cd2540eb732cfd9ee95f364b36bb6803f8ae6390"), looks := true }, kinds := [], alts := [], laidByText := true, laidKinds := [.data, .data, .data], laidTests := true, laidLooks := .later }
def ShowOnceCardSaid : Prop := Claim7.holds Tryz.pinned (.plain (OpenSpec.ofChange showOnceSpec)) showOnceCard

/-- THE TIED CARD OF 'fenestralaw08.ShowLines'. -/
def showLinesCard : Claim7 := { stood := { row := showLinesRow, standIns := [], harness := (true, "98e33d2af9cd051b27bf8312cd2540eb732cfd9ee95f364b36bb6803f8ae6390"), looks := true }, kinds := [], alts := [], laidByText := true, laidKinds := [.data, .data, .data, .data, .pinned], laidTests := true, laidLooks := .later }
def ShowLinesCardSaid : Prop := Claim7.holds Tryz.pinned (.plain (OpenSpec.ofChange showLinesSpec)) showLinesCard

/-- THE TIED CARD OF 'fenestralaw08.ShowInverse'. -/
def showInverseCard : Claim7 := { stood := { row := showInverseRow, standIns := [], harness := (true, "98e33d2af9cd051b27bf8312cd2540eb732cfd9ee95f364b36bb6803f8ae6390"), looks := true }, kinds := [], alts := [], laidByText := true, laidKinds := [.data, .data, .data, .sentinel, .sentinel], laidTests := true, laidLooks := .later }
def ShowInverseCardSaid : Prop := Claim7.holds Tryz.pinned (.plain (OpenSpec.ofChange showInverseSpec)) showInverseCard

/-- THE TIED CARD OF 'fenestralaw08.ShowCanonical'. -/
def showCanonicalCard : Claim7 := { stood := { row := showCanonicalRow, standIns := [], harness := (true, "98e33d2af9cd051b27bf8312cd2540eb732cfd9ee95f364b36bb6803f8ae6390"), looks := true }, kinds := [], alts := [], laidByText := true, laidKinds := [.data, .data, .data, .sentinel, .sentinel], laidTests := true, laidLooks := .later }
def ShowCanonicalCardSaid : Prop := Claim7.holds Tryz.pinned (.plain (OpenSpec.ofChange showCanonicalSpec)) showCanonicalCard

/-- THE SECOND FORM's CARD OF 'fenestralaw08.ShowPrints'. -/
def showPrintsUptoCard : Claim7 := { stood := { row := showPrintsUptoRow, standIns := [], harness := (true, "98e33d2af9cd051b27bf8312cd2540eb732cfd9ee95f364b36bb6803f8ae6390"), looks := true }, kinds := [], alts := [], laidByText := true, laidKinds := [.data, .data, .data], laidTests := true, laidLooks := .later }
def ShowPrintsUptoCardSaid : Prop := Claim7.holds Tryz.pinned (.plain (OpenSpec.upto showPrintsSpec)) showPrintsUptoCard

/-- THE SECOND FORM's CARD OF 'fenestralaw08.ShowOnce'. -/
def showOnceUptoCard : Claim7 := { stood := { row := showOnceUptoRow, standIns := [], harness := (true, "98e33d2af9cd051b27bf8312cd2540eb732cfd9ee95f364b36bb6803f8ae6390"), looks := true }, kinds := [], alts := [], laidByText := true, laidKinds := [.data, .data, .data], laidTests := true, laidLooks := .later }
def ShowOnceUptoCardSaid : Prop := Claim7.holds Tryz.pinned (.plain (OpenSpec.upto showOnceSpec)) showOnceUptoCard

/-- THE SECOND FORM's CARD OF 'fenestralaw08.ShowLines'. -/
def showLinesUptoCard : Claim7 := { stood := { row := showLinesUptoRow, standIns := [], harness := (true, "98e33d2af9cd051b27bf8312cd2540eb732cfd9ee95f364b36bb6803f8ae6390"), looks := true }, kinds := [], alts := [], laidByText := true, laidKinds := [.data, .data, .data, .data, .pinned], laidTests := true, laidLooks := .later }
def ShowLinesUptoCardSaid : Prop := Claim7.holds Tryz.pinned (.plain (OpenSpec.upto showLinesSpec)) showLinesUptoCard

/-- THE SECOND FORM's CARD OF 'fenestralaw08.ShowInverse'. -/
def showInverseUptoCard : Claim7 := { stood := { row := showInverseUptoRow, standIns := [], harness := (true, "98e33d2af9cd051b27bf8312cd2540eb732cfd9ee95f364b36bb6803f8ae6390"), looks := true }, kinds := [], alts := [], laidByText := true, laidKinds := [.data, .data, .data, .sentinel, .sentinel], laidTests := true, laidLooks := .later }
def ShowInverseUptoCardSaid : Prop := Claim7.holds Tryz.pinned (.plain (OpenSpec.upto showInverseSpec)) showInverseUptoCard

/-- THE SECOND FORM's CARD OF 'fenestralaw08.ShowCanonical'. -/
def showCanonicalUptoCard : Claim7 := { stood := { row := showCanonicalUptoRow, standIns := [], harness := (true, "98e33d2af9cd051b27bf8312cd2540eb732cfd9ee95f364b36bb6803f8ae6390"), looks := true }, kinds := [], alts := [], laidByText := true, laidKinds := [.data, .data, .data, .sentinel, .sentinel], laidTests := true, laidLooks := .later }
def ShowCanonicalUptoCardSaid : Prop := Claim7.holds Tryz.pinned (.plain (OpenSpec.upto showCanonicalSpec)) showCanonicalUptoCard
end Rows
end Go.Proofs.YtcnihmlmaigkdaaGreatDoor
