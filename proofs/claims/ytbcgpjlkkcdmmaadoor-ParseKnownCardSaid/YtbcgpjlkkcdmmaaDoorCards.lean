/-
  DERIVED. GIVEN WITH THE SEED: THE CARDS: each row of YtbcgpjlkkcdmmaaDoorRows.lean that lists a variable, with what it lists TIED to the program's text (the seventh form; the later family's looks); each row that meets fmt, with fmt's text TOLD by the authors' own Lean function (tested against real Go, not proved from fmt's source: count such statements apart). THE CARD IS WHAT COUNTS. Prove the row's statement (the work); the ties are given (YtbcgpjlkkcdmmaaDoorTie.lean); close each card by the builder's one call (the guide's Derived/Test/ToyasCard.lean, 'card_holds'). Laid BY PROGRAM, IN A SANDBOX (cutbox-door.mjs). By AI agents, Wed Nov 11 2026. No macro, syntax, notation, axiom, sorry.
-/
import Derived.Test.YtbcgpjlkkcdmmaaDoorRows
import GoSem.ClaimSeven
namespace Go.Proofs.YtbcgpjlkkcdmmaaDoor
namespace Rows

/-- THE TIED CARD OF 'suturelaw5.ParseKnown'. -/
def parseKnownCard : Claim7 := { stood := { row := parseKnownRow, standIns := [], harness := (true, "3c4f1a75033a080b4a08fede5b7034399849efdc273967fdca5958d37e749c37"), looks := true }, kinds := [], alts := [], laidByText := true, laidKinds := [.data, .data, .data, .sentinel, .sentinel], laidTests := true, laidLooks := .later }
def ParseKnownCardSaid : Prop := Claim7.holds Tryd.pinned (.plain (OpenSpec.ofChange parseKnownSpec)) parseKnownCard

/-- THE TIED CARD OF 'suturelaw5.ParseDeep'. -/
def parseDeepCard : Claim7 := { stood := { row := parseDeepRow, standIns := [], harness := (true, "3c4f1a75033a080b4a08fede5b7034399849efdc273967fdca5958d37e749c37"), looks := true }, kinds := [], alts := [], laidByText := true, laidKinds := [.data, .data, .data, .sentinel, .sentinel], laidTests := true, laidLooks := .later }
def ParseDeepCardSaid : Prop := Claim7.holds Tryd.pinned (.plain (OpenSpec.ofChange parseDeepSpec)) parseDeepCard

/-- THE SECOND FORM's CARD OF 'suturelaw5.ParseKnown'. -/
def parseKnownUptoCard : Claim7 := { stood := { row := parseKnownUptoRow, standIns := [], harness := (true, "3c4f1a75033a080b4a08fede5b7034399849efdc273967fdca5958d37e749c37"), looks := true }, kinds := [], alts := [], laidByText := true, laidKinds := [.data, .data, .data, .sentinel, .sentinel], laidTests := true, laidLooks := .later }
def ParseKnownUptoCardSaid : Prop := Claim7.holds Tryd.pinned (.plain (OpenSpec.upto parseKnownSpec)) parseKnownUptoCard

/-- THE SECOND FORM's CARD OF 'suturelaw5.ParseDeep'. -/
def parseDeepUptoCard : Claim7 := { stood := { row := parseDeepUptoRow, standIns := [], harness := (true, "3c4f1a75033a080b4a08fede5b7034399849efdc273967fdca5958d37e749c37"), looks := true }, kinds := [], alts := [], laidByText := true, laidKinds := [.data, .data, .data, .sentinel, .sentinel], laidTests := true, laidLooks := .later }
def ParseDeepUptoCardSaid : Prop := Claim7.holds Tryd.pinned (.plain (OpenSpec.upto parseDeepSpec)) parseDeepUptoCard
end Rows
end Go.Proofs.YtbcgpjlkkcdmmaaDoor
