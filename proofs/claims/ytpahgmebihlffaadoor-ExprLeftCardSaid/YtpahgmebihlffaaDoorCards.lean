/-
  DERIVED. GIVEN WITH THE SEED: THE CARDS: each row of YtpahgmebihlffaaDoorRows.lean that lists a variable, with what it lists TIED to the program's text (the seventh form; the later family's looks); each row that meets fmt, with fmt's text TOLD by the authors' own Lean function (tested against real Go, not proved from fmt's source: count such statements apart). THE CARD IS WHAT COUNTS. Prove the row's statement (the work); the ties are given (YtpahgmebihlffaaDoorTie.lean); close each card by the builder's one call (the guide's Derived/Test/ToyasCard.lean, 'card_holds'). Laid BY PROGRAM, IN A SANDBOX (cutbox-door.mjs). By AI agents, Wed Nov 11 2026. No macro, syntax, notation, axiom, sorry.
-/
import Derived.Test.YtpahgmebihlffaaDoorRows
import GoSem.ClaimSeven
namespace Go.Proofs.YtpahgmebihlffaaDoor
namespace Rows

/-- THE TIED CARD OF 'suturelaw4.ExprKnown'. -/
def exprKnownCard : Claim7 := { stood := { row := exprKnownRow, standIns := [], harness := (true, "9717b1405bb354b94801b3335b9a529df6e7981e7edd11c3ff8678d3f8395f8b"), looks := true }, kinds := [], alts := [], laidByText := true, laidKinds := [.data, .data, .data, .sentinel, .sentinel], laidTests := true, laidLooks := .later }
def ExprKnownCardSaid : Prop := Claim7.holds Tryd.pinned (.plain (OpenSpec.ofChange exprKnownSpec)) exprKnownCard

/-- THE TIED CARD OF 'suturelaw4.ExprBack'. -/
def exprBackCard : Claim7 := { stood := { row := exprBackRow, standIns := [], harness := (true, "9717b1405bb354b94801b3335b9a529df6e7981e7edd11c3ff8678d3f8395f8b"), looks := true }, kinds := [], alts := [], laidByText := true, laidKinds := [.data, .data, .data, .sentinel, .sentinel], laidTests := true, laidLooks := .later }
def ExprBackCardSaid : Prop := Claim7.holds Tryd.pinned (.plain (OpenSpec.ofChange exprBackSpec)) exprBackCard

/-- THE TIED CARD OF 'suturelaw4.ExprParens'. -/
def exprParensCard : Claim7 := { stood := { row := exprParensRow, standIns := [], harness := (true, "9717b1405bb354b94801b3335b9a529df6e7981e7edd11c3ff8678d3f8395f8b"), looks := true }, kinds := [], alts := [], laidByText := true, laidKinds := [.data, .data, .data, .sentinel, .sentinel], laidTests := true, laidLooks := .later }
def ExprParensCardSaid : Prop := Claim7.holds Tryd.pinned (.plain (OpenSpec.ofChange exprParensSpec)) exprParensCard

/-- THE TIED CARD OF 'suturelaw4.ExprLeft'. -/
def exprLeftCard : Claim7 := { stood := { row := exprLeftRow, standIns := [], harness := (true, "9717b1405bb354b94801b3335b9a529df6e7981e7edd11c3ff8678d3f8395f8b"), looks := true }, kinds := [], alts := [], laidByText := true, laidKinds := [.data, .data, .data, .sentinel, .sentinel], laidTests := true, laidLooks := .later }
def ExprLeftCardSaid : Prop := Claim7.holds Tryd.pinned (.plain (OpenSpec.ofChange exprLeftSpec)) exprLeftCard

/-- THE SECOND FORM's CARD OF 'suturelaw4.ExprKnown'. -/
def exprKnownUptoCard : Claim7 := { stood := { row := exprKnownUptoRow, standIns := [], harness := (true, "9717b1405bb354b94801b3335b9a529df6e7981e7edd11c3ff8678d3f8395f8b"), looks := true }, kinds := [], alts := [], laidByText := true, laidKinds := [.data, .data, .data, .sentinel, .sentinel], laidTests := true, laidLooks := .later }
def ExprKnownUptoCardSaid : Prop := Claim7.holds Tryd.pinned (.plain (OpenSpec.upto exprKnownSpec)) exprKnownUptoCard

/-- THE SECOND FORM's CARD OF 'suturelaw4.ExprBack'. -/
def exprBackUptoCard : Claim7 := { stood := { row := exprBackUptoRow, standIns := [], harness := (true, "9717b1405bb354b94801b3335b9a529df6e7981e7edd11c3ff8678d3f8395f8b"), looks := true }, kinds := [], alts := [], laidByText := true, laidKinds := [.data, .data, .data, .sentinel, .sentinel], laidTests := true, laidLooks := .later }
def ExprBackUptoCardSaid : Prop := Claim7.holds Tryd.pinned (.plain (OpenSpec.upto exprBackSpec)) exprBackUptoCard

/-- THE SECOND FORM's CARD OF 'suturelaw4.ExprParens'. -/
def exprParensUptoCard : Claim7 := { stood := { row := exprParensUptoRow, standIns := [], harness := (true, "9717b1405bb354b94801b3335b9a529df6e7981e7edd11c3ff8678d3f8395f8b"), looks := true }, kinds := [], alts := [], laidByText := true, laidKinds := [.data, .data, .data, .sentinel, .sentinel], laidTests := true, laidLooks := .later }
def ExprParensUptoCardSaid : Prop := Claim7.holds Tryd.pinned (.plain (OpenSpec.upto exprParensSpec)) exprParensUptoCard

/-- THE SECOND FORM's CARD OF 'suturelaw4.ExprLeft'. -/
def exprLeftUptoCard : Claim7 := { stood := { row := exprLeftUptoRow, standIns := [], harness := (true, "9717b1405bb354b94801b3335b9a529df6e7981e7edd11c3ff8678d3f8395f8b"), looks := true }, kinds := [], alts := [], laidByText := true, laidKinds := [.data, .data, .data, .sentinel, .sentinel], laidTests := true, laidLooks := .later }
def ExprLeftUptoCardSaid : Prop := Claim7.holds Tryd.pinned (.plain (OpenSpec.upto exprLeftSpec)) exprLeftUptoCard
end Rows
end Go.Proofs.YtpahgmebihlffaaDoor
