/-
  DERIVED. GIVEN WITH THE SEED: THE CARDS: each row of YtbcgpjlkkcdmmaaGreatDoorRows.lean that lists a variable, with what it lists TIED to the program's text (the seventh form; the later family's looks); each row that meets fmt, with fmt's text TOLD by the authors' own Lean function (tested against real Go, not proved from fmt's source: count such statements apart). THE CARD IS WHAT COUNTS. Prove the row's statement (the work); the ties are given (YtbcgpjlkkcdmmaaGreatDoorTie.lean); close each card by the builder's one call (the guide's Derived/Test/ToyasCard.lean, 'card_holds'). Laid BY PROGRAM, IN A SANDBOX (cutbox-door.mjs). By AI agents, Wed Nov 11 2026. No macro, syntax, notation, axiom, sorry.
-/
import Derived.Test.YtbcgpjlkkcdmmaaGreatDoorRows
import GoSem.ClaimSeven
namespace Go.Proofs.YtbcgpjlkkcdmmaaGreatDoor
namespace Rows

/-- THE TIED CARD OF 'suturelaw6.TextLines'. -/
def textLinesCard : Claim7 := { stood := { row := textLinesRow, standIns := [], harness := (true, "55acbf8bfaf03e830544195ce0ebbb805c8d27e8bd62f7d33b04c96d12e8891f"), looks := true }, kinds := [], alts := [], laidByText := true, laidKinds := [.data, .data, .data, .sentinel, .sentinel], laidTests := true, laidLooks := .later }
def TextLinesCardSaid : Prop := Claim7.holds Tryz.pinned (.plain (OpenSpec.ofChange textLinesSpec)) textLinesCard

/-- THE TIED CARD OF 'suturelaw6.TextJoins'. -/
def textJoinsCard : Claim7 := { stood := { row := textJoinsRow, standIns := [], harness := (true, "55acbf8bfaf03e830544195ce0ebbb805c8d27e8bd62f7d33b04c96d12e8891f"), looks := true }, kinds := [], alts := [], laidByText := true, laidKinds := [.data, .data, .data, .sentinel, .sentinel], laidTests := true, laidLooks := .later }
def TextJoinsCardSaid : Prop := Claim7.holds Tryz.pinned (.plain (OpenSpec.ofChange textJoinsSpec)) textJoinsCard

/-- THE TIED CARD OF 'suturelaw5.ParseTells'. -/
def parseTellsCard : Claim7 := { stood := { row := parseTellsRow, standIns := [], harness := (true, "55acbf8bfaf03e830544195ce0ebbb805c8d27e8bd62f7d33b04c96d12e8891f"), looks := true }, kinds := [], alts := [], laidByText := true, laidKinds := [.data, .data, .data, .sentinel, .sentinel], laidTests := true, laidLooks := .later }
def ParseTellsCardSaid : Prop := Claim7.holds Tryz.pinned (.plain (OpenSpec.ofChange parseTellsSpec)) parseTellsCard

/-- THE TIED CARD OF 'suturelaw5.ParseShown'. -/
def parseShownCard : Claim7 := { stood := { row := parseShownRow, standIns := [], harness := (true, "55acbf8bfaf03e830544195ce0ebbb805c8d27e8bd62f7d33b04c96d12e8891f"), looks := true }, kinds := [], alts := [], laidByText := true, laidKinds := [.data, .data, .data, .sentinel, .sentinel], laidTests := true, laidLooks := .later }
def ParseShownCardSaid : Prop := Claim7.holds Tryz.pinned (.plain (OpenSpec.ofChange parseShownSpec)) parseShownCard

/-- THE TIED CARD OF 'suturelaw5.ParseAfter'. -/
def parseAfterCard : Claim7 := { stood := { row := parseAfterRow, standIns := [], harness := (true, "55acbf8bfaf03e830544195ce0ebbb805c8d27e8bd62f7d33b04c96d12e8891f"), looks := true }, kinds := [], alts := [], laidByText := true, laidKinds := [.data, .data, .data, .sentinel, .sentinel], laidTests := true, laidLooks := .later }
def ParseAfterCardSaid : Prop := Claim7.holds Tryz.pinned (.plain (OpenSpec.ofChange parseAfterSpec)) parseAfterCard

/-- THE TIED CARD OF 'suturelaw5.ParseMore'. -/
def parseMoreCard : Claim7 := { stood := { row := parseMoreRow, standIns := [], harness := (true, "55acbf8bfaf03e830544195ce0ebbb805c8d27e8bd62f7d33b04c96d12e8891f"), looks := true }, kinds := [], alts := [], laidByText := true, laidKinds := [.data, .data, .data, .sentinel, .sentinel], laidTests := true, laidLooks := .later }
def ParseMoreCardSaid : Prop := Claim7.holds Tryz.pinned (.plain (OpenSpec.ofChange parseMoreSpec)) parseMoreCard

/-- THE TIED CARD OF 'suturelaw6.TextKnown'. -/
def textKnownCard : Claim7 := { stood := { row := textKnownRow, standIns := [], harness := (true, "55acbf8bfaf03e830544195ce0ebbb805c8d27e8bd62f7d33b04c96d12e8891f"), looks := true }, kinds := [], alts := [], laidByText := true, laidKinds := [.data, .data, .data, .sentinel, .sentinel], laidTests := true, laidLooks := .later }
def TextKnownCardSaid : Prop := Claim7.holds Tryz.pinned (.plain (OpenSpec.ofChange textKnownSpec)) textKnownCard

/-- THE TIED CARD OF 'suturelaw6.TextTells'. -/
def textTellsCard : Claim7 := { stood := { row := textTellsRow, standIns := [], harness := (true, "55acbf8bfaf03e830544195ce0ebbb805c8d27e8bd62f7d33b04c96d12e8891f"), looks := true }, kinds := [], alts := [], laidByText := true, laidKinds := [.data, .data, .data, .sentinel, .sentinel], laidTests := true, laidLooks := .later }
def TextTellsCardSaid : Prop := Claim7.holds Tryz.pinned (.plain (OpenSpec.ofChange textTellsSpec)) textTellsCard

/-- THE TIED CARD OF 'suturelaw6.TextBack'. -/
def textBackCard : Claim7 := { stood := { row := textBackRow, standIns := [], harness := (true, "55acbf8bfaf03e830544195ce0ebbb805c8d27e8bd62f7d33b04c96d12e8891f"), looks := true }, kinds := [], alts := [], laidByText := true, laidKinds := [.data, .data, .data, .sentinel, .sentinel], laidTests := true, laidLooks := .later }
def TextBackCardSaid : Prop := Claim7.holds Tryz.pinned (.plain (OpenSpec.ofChange textBackSpec)) textBackCard

/-- THE SECOND FORM's CARD OF 'suturelaw6.TextLines'. -/
def textLinesUptoCard : Claim7 := { stood := { row := textLinesUptoRow, standIns := [], harness := (true, "55acbf8bfaf03e830544195ce0ebbb805c8d27e8bd62f7d33b04c96d12e8891f"), looks := true }, kinds := [], alts := [], laidByText := true, laidKinds := [.data, .data, .data, .sentinel, .sentinel], laidTests := true, laidLooks := .later }
def TextLinesUptoCardSaid : Prop := Claim7.holds Tryz.pinned (.plain (OpenSpec.upto textLinesSpec)) textLinesUptoCard

/-- THE SECOND FORM's CARD OF 'suturelaw6.TextJoins'. -/
def textJoinsUptoCard : Claim7 := { stood := { row := textJoinsUptoRow, standIns := [], harness := (true, "55acbf8bfaf03e830544195ce0ebbb805c8d27e8bd62f7d33b04c96d12e8891f"), looks := true }, kinds := [], alts := [], laidByText := true, laidKinds := [.data, .data, .data, .sentinel, .sentinel], laidTests := true, laidLooks := .later }
def TextJoinsUptoCardSaid : Prop := Claim7.holds Tryz.pinned (.plain (OpenSpec.upto textJoinsSpec)) textJoinsUptoCard

/-- THE SECOND FORM's CARD OF 'suturelaw5.ParseTells'. -/
def parseTellsUptoCard : Claim7 := { stood := { row := parseTellsUptoRow, standIns := [], harness := (true, "55acbf8bfaf03e830544195ce0ebbb805c8d27e8bd62f7d33b04c96d12e8891f"), looks := true }, kinds := [], alts := [], laidByText := true, laidKinds := [.data, .data, .data, .sentinel, .sentinel], laidTests := true, laidLooks := .later }
def ParseTellsUptoCardSaid : Prop := Claim7.holds Tryz.pinned (.plain (OpenSpec.upto parseTellsSpec)) parseTellsUptoCard

/-- THE SECOND FORM's CARD OF 'suturelaw5.ParseShown'. -/
def parseShownUptoCard : Claim7 := { stood := { row := parseShownUptoRow, standIns := [], harness := (true, "55acbf8bfaf03e830544195ce0ebbb805c8d27e8bd62f7d33b04c96d12e8891f"), looks := true }, kinds := [], alts := [], laidByText := true, laidKinds := [.data, .data, .data, .sentinel, .sentinel], laidTests := true, laidLooks := .later }
def ParseShownUptoCardSaid : Prop := Claim7.holds Tryz.pinned (.plain (OpenSpec.upto parseShownSpec)) parseShownUptoCard

/-- THE SECOND FORM's CARD OF 'suturelaw5.ParseAfter'. -/
def parseAfterUptoCard : Claim7 := { stood := { row := parseAfterUptoRow, standIns := [], harness := (true, "55acbf8bfaf03e830544195ce0ebbb805c8d27e8bd62f7d33b04c96d12e8891f"), looks := true }, kinds := [], alts := [], laidByText := true, laidKinds := [.data, .data, .data, .sentinel, .sentinel], laidTests := true, laidLooks := .later }
def ParseAfterUptoCardSaid : Prop := Claim7.holds Tryz.pinned (.plain (OpenSpec.upto parseAfterSpec)) parseAfterUptoCard

/-- THE SECOND FORM's CARD OF 'suturelaw5.ParseMore'. -/
def parseMoreUptoCard : Claim7 := { stood := { row := parseMoreUptoRow, standIns := [], harness := (true, "55acbf8bfaf03e830544195ce0ebbb805c8d27e8bd62f7d33b04c96d12e8891f"), looks := true }, kinds := [], alts := [], laidByText := true, laidKinds := [.data, .data, .data, .sentinel, .sentinel], laidTests := true, laidLooks := .later }
def ParseMoreUptoCardSaid : Prop := Claim7.holds Tryz.pinned (.plain (OpenSpec.upto parseMoreSpec)) parseMoreUptoCard

/-- THE SECOND FORM's CARD OF 'suturelaw6.TextKnown'. -/
def textKnownUptoCard : Claim7 := { stood := { row := textKnownUptoRow, standIns := [], harness := (true, "55acbf8bfaf03e830544195ce0ebbb805c8d27e8bd62f7d33b04c96d12e8891f"), looks := true }, kinds := [], alts := [], laidByText := true, laidKinds := [.data, .data, .data, .sentinel, .sentinel], laidTests := true, laidLooks := .later }
def TextKnownUptoCardSaid : Prop := Claim7.holds Tryz.pinned (.plain (OpenSpec.upto textKnownSpec)) textKnownUptoCard

/-- THE SECOND FORM's CARD OF 'suturelaw6.TextTells'. -/
def textTellsUptoCard : Claim7 := { stood := { row := textTellsUptoRow, standIns := [], harness := (true, "55acbf8bfaf03e830544195ce0ebbb805c8d27e8bd62f7d33b04c96d12e8891f"), looks := true }, kinds := [], alts := [], laidByText := true, laidKinds := [.data, .data, .data, .sentinel, .sentinel], laidTests := true, laidLooks := .later }
def TextTellsUptoCardSaid : Prop := Claim7.holds Tryz.pinned (.plain (OpenSpec.upto textTellsSpec)) textTellsUptoCard

/-- THE SECOND FORM's CARD OF 'suturelaw6.TextBack'. -/
def textBackUptoCard : Claim7 := { stood := { row := textBackUptoRow, standIns := [], harness := (true, "55acbf8bfaf03e830544195ce0ebbb805c8d27e8bd62f7d33b04c96d12e8891f"), looks := true }, kinds := [], alts := [], laidByText := true, laidKinds := [.data, .data, .data, .sentinel, .sentinel], laidTests := true, laidLooks := .later }
def TextBackUptoCardSaid : Prop := Claim7.holds Tryz.pinned (.plain (OpenSpec.upto textBackSpec)) textBackUptoCard
end Rows
end Go.Proofs.YtbcgpjlkkcdmmaaGreatDoor
