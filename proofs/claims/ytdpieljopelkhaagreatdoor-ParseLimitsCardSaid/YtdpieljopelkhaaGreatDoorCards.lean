/-
  DERIVED. GIVEN WITH THE SEED: THE CARDS: each row of YtdpieljopelkhaaGreatDoorRows.lean that lists a variable, with what it lists TIED to the program's text (the seventh form; the later family's looks); each row that meets fmt, with fmt's text TOLD by the authors' own Lean function (tested against real Go, not proved from fmt's source: count such statements apart). THE CARD IS WHAT COUNTS. Prove the row's statement (the work); the ties are given (YtdpieljopelkhaaGreatDoorTie.lean); close each card by the builder's one call (the guide's Derived/Test/ToyasCard.lean, 'card_holds'). Laid BY PROGRAM, IN A SANDBOX (cutbox-door.mjs). By AI agents, Wed Nov 11 2026. No macro, syntax, notation, axiom, sorry.
-/
import Derived.Test.YtdpieljopelkhaaGreatDoorRows
import GoSem.ClaimSeven
namespace Go.Proofs.YtdpieljopelkhaaGreatDoor
namespace Rows

/-- THE TIED CARD OF 'fenestralaw07.ParseTexts'. -/
def parseTextsCard : Claim7 := { stood := { row := parseTextsRow, standIns := [], harness := (true, "49d67d3340d79b94390bea9ca5a359710da7a53f61d15c7db4290bcf233e1ac3"), looks := true }, kinds := [], alts := [], laidByText := true, laidKinds := [.data, .data, .data, .sentinel, .sentinel], laidTests := true, laidLooks := .later }
def ParseTextsCardSaid : Prop := Claim7.holds Tryz.pinned (.plain (OpenSpec.ofChange parseTextsSpec)) parseTextsCard

/-- THE TIED CARD OF 'fenestralaw07.ParseBreaks'. -/
def parseBreaksCard : Claim7 := { stood := { row := parseBreaksRow, standIns := [], harness := (true, "49d67d3340d79b94390bea9ca5a359710da7a53f61d15c7db4290bcf233e1ac3"), looks := true }, kinds := [], alts := [], laidByText := true, laidKinds := [.data, .data, .data, .sentinel, .sentinel], laidTests := true, laidLooks := .later }
def ParseBreaksCardSaid : Prop := Claim7.holds Tryz.pinned (.plain (OpenSpec.ofChange parseBreaksSpec)) parseBreaksCard

/-- THE TIED CARD OF 'fenestralaw07.ParseRights'. -/
def parseRightsCard : Claim7 := { stood := { row := parseRightsRow, standIns := [], harness := (true, "49d67d3340d79b94390bea9ca5a359710da7a53f61d15c7db4290bcf233e1ac3"), looks := true }, kinds := [], alts := [], laidByText := true, laidKinds := [.data, .data, .data, .sentinel, .sentinel], laidTests := true, laidLooks := .later }
def ParseRightsCardSaid : Prop := Claim7.holds Tryz.pinned (.plain (OpenSpec.ofChange parseRightsSpec)) parseRightsCard

/-- THE TIED CARD OF 'fenestralaw07.ParseRecords'. -/
def parseRecordsCard : Claim7 := { stood := { row := parseRecordsRow, standIns := [], harness := (true, "49d67d3340d79b94390bea9ca5a359710da7a53f61d15c7db4290bcf233e1ac3"), looks := true }, kinds := [], alts := [], laidByText := true, laidKinds := [.data, .data, .data, .sentinel, .sentinel], laidTests := true, laidLooks := .later }
def ParseRecordsCardSaid : Prop := Claim7.holds Tryz.pinned (.plain (OpenSpec.ofChange parseRecordsSpec)) parseRecordsCard

/-- THE TIED CARD OF 'fenestralaw07.ParseLimits'. -/
def parseLimitsCard : Claim7 := { stood := { row := parseLimitsRow, standIns := [], harness := (true, "49d67d3340d79b94390bea9ca5a359710da7a53f61d15c7db4290bcf233e1ac3"), looks := true }, kinds := [], alts := [], laidByText := true, laidKinds := [.data, .data, .data, .sentinel, .sentinel], laidTests := true, laidLooks := .later }
def ParseLimitsCardSaid : Prop := Claim7.holds Tryz.pinned (.plain (OpenSpec.ofChange parseLimitsSpec)) parseLimitsCard

/-- THE TIED CARD OF 'fenestralaw07.ParseSpaces'. -/
def parseSpacesCard : Claim7 := { stood := { row := parseSpacesRow, standIns := [], harness := (true, "49d67d3340d79b94390bea9ca5a359710da7a53f61d15c7db4290bcf233e1ac3"), looks := true }, kinds := [], alts := [], laidByText := true, laidKinds := [.data, .data, .data, .sentinel, .sentinel], laidTests := true, laidLooks := .later }
def ParseSpacesCardSaid : Prop := Claim7.holds Tryz.pinned (.plain (OpenSpec.ofChange parseSpacesSpec)) parseSpacesCard

/-- THE SECOND FORM's CARD OF 'fenestralaw07.ParseTexts'. -/
def parseTextsUptoCard : Claim7 := { stood := { row := parseTextsUptoRow, standIns := [], harness := (true, "49d67d3340d79b94390bea9ca5a359710da7a53f61d15c7db4290bcf233e1ac3"), looks := true }, kinds := [], alts := [], laidByText := true, laidKinds := [.data, .data, .data, .sentinel, .sentinel], laidTests := true, laidLooks := .later }
def ParseTextsUptoCardSaid : Prop := Claim7.holds Tryz.pinned (.plain (OpenSpec.upto parseTextsSpec)) parseTextsUptoCard

/-- THE SECOND FORM's CARD OF 'fenestralaw07.ParseBreaks'. -/
def parseBreaksUptoCard : Claim7 := { stood := { row := parseBreaksUptoRow, standIns := [], harness := (true, "49d67d3340d79b94390bea9ca5a359710da7a53f61d15c7db4290bcf233e1ac3"), looks := true }, kinds := [], alts := [], laidByText := true, laidKinds := [.data, .data, .data, .sentinel, .sentinel], laidTests := true, laidLooks := .later }
def ParseBreaksUptoCardSaid : Prop := Claim7.holds Tryz.pinned (.plain (OpenSpec.upto parseBreaksSpec)) parseBreaksUptoCard

/-- THE SECOND FORM's CARD OF 'fenestralaw07.ParseRights'. -/
def parseRightsUptoCard : Claim7 := { stood := { row := parseRightsUptoRow, standIns := [], harness := (true, "49d67d3340d79b94390bea9ca5a359710da7a53f61d15c7db4290bcf233e1ac3"), looks := true }, kinds := [], alts := [], laidByText := true, laidKinds := [.data, .data, .data, .sentinel, .sentinel], laidTests := true, laidLooks := .later }
def ParseRightsUptoCardSaid : Prop := Claim7.holds Tryz.pinned (.plain (OpenSpec.upto parseRightsSpec)) parseRightsUptoCard

/-- THE SECOND FORM's CARD OF 'fenestralaw07.ParseRecords'. -/
def parseRecordsUptoCard : Claim7 := { stood := { row := parseRecordsUptoRow, standIns := [], harness := (true, "49d67d3340d79b94390bea9ca5a359710da7a53f61d15c7db4290bcf233e1ac3"), looks := true }, kinds := [], alts := [], laidByText := true, laidKinds := [.data, .data, .data, .sentinel, .sentinel], laidTests := true, laidLooks := .later }
def ParseRecordsUptoCardSaid : Prop := Claim7.holds Tryz.pinned (.plain (OpenSpec.upto parseRecordsSpec)) parseRecordsUptoCard

/-- THE SECOND FORM's CARD OF 'fenestralaw07.ParseLimits'. -/
def parseLimitsUptoCard : Claim7 := { stood := { row := parseLimitsUptoRow, standIns := [], harness := (true, "49d67d3340d79b94390bea9ca5a359710da7a53f61d15c7db4290bcf233e1ac3"), looks := true }, kinds := [], alts := [], laidByText := true, laidKinds := [.data, .data, .data, .sentinel, .sentinel], laidTests := true, laidLooks := .later }
def ParseLimitsUptoCardSaid : Prop := Claim7.holds Tryz.pinned (.plain (OpenSpec.upto parseLimitsSpec)) parseLimitsUptoCard

/-- THE SECOND FORM's CARD OF 'fenestralaw07.ParseSpaces'. -/
def parseSpacesUptoCard : Claim7 := { stood := { row := parseSpacesUptoRow, standIns := [], harness := (true, "49d67d3340d79b94390bea9ca5a359710da7a53f61d15c7db4290bcf233e1ac3"), looks := true }, kinds := [], alts := [], laidByText := true, laidKinds := [.data, .data, .data, .sentinel, .sentinel], laidTests := true, laidLooks := .later }
def ParseSpacesUptoCardSaid : Prop := Claim7.holds Tryz.pinned (.plain (OpenSpec.upto parseSpacesSpec)) parseSpacesUptoCard
end Rows
end Go.Proofs.YtdpieljopelkhaaGreatDoor
