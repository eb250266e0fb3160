/-
  DERIVED. GIVEN WITH THE SEED: THE CARDS: each row of YtimkclpogbfciaaDoorRows.lean that lists a variable, with what it lists TIED to the program's text (the seventh form; the later family's looks); each row that meets fmt, with fmt's text TOLD by the authors' own Lean function (tested against real Go, not proved from fmt's source: count such statements apart). THE CARD IS WHAT COUNTS. Prove the row's statement (the work); the ties are given (YtimkclpogbfciaaDoorTie.lean); close each card by the builder's one call (the guide's Derived/Test/ToyasCard.lean, 'card_holds'). Laid BY PROGRAM, IN A SANDBOX (cutbox-door.mjs). By AI agents, Wed Nov 11 2026. No macro, syntax, notation, axiom, sorry.
-/
import Derived.Test.YtimkclpogbfciaaDoorRows
import GoSem.ClaimSeven
namespace Go.Proofs.YtimkclpogbfciaaDoor
namespace Rows

/-- THE TIED CARD OF 'suturelaw7.DiffKnown'. -/
def diffKnownCard : Claim7 := { stood := { row := diffKnownRow, standIns := [], harness := (true, "2f864645de4e56908ac717230d52a4fb02bdb56eb44d794434b1dda410a514d4"), looks := true }, kinds := [], alts := [], laidByText := true, laidKinds := [.data, .data, .data, .data, .sentinel, .sentinel, .pinned], laidTests := true, laidLooks := .later }
def DiffKnownCardSaid : Prop := Claim7.holds Tryd.pinned (.plain (OpenSpec.ofChange diffKnownSpec)) diffKnownCard

/-- THE TIED CARD OF 'suturelaw7.DiffTells'. -/
def diffTellsCard : Claim7 := { stood := { row := diffTellsRow, standIns := [], harness := (true, "2f864645de4e56908ac717230d52a4fb02bdb56eb44d794434b1dda410a514d4"), looks := true }, kinds := [], alts := [], laidByText := true, laidKinds := [.data, .data, .data, .data, .sentinel, .sentinel, .pinned], laidTests := true, laidLooks := .later }
def DiffTellsCardSaid : Prop := Claim7.holds Tryd.pinned (.plain (OpenSpec.ofChange diffTellsSpec)) diffTellsCard

/-- THE TIED CARD OF 'suturelaw7.DiffBack'. -/
def diffBackCard : Claim7 := { stood := { row := diffBackRow, standIns := [], harness := (true, "2f864645de4e56908ac717230d52a4fb02bdb56eb44d794434b1dda410a514d4"), looks := true }, kinds := [], alts := [], laidByText := true, laidKinds := [.data, .data, .data, .data, .sentinel, .sentinel, .pinned], laidTests := true, laidLooks := .later }
def DiffBackCardSaid : Prop := Claim7.holds Tryd.pinned (.plain (OpenSpec.ofChange diffBackSpec)) diffBackCard

/-- THE TIED CARD OF 'suturelaw7.DiffMost'. -/
def diffMostCard : Claim7 := { stood := { row := diffMostRow, standIns := [], harness := (true, "2f864645de4e56908ac717230d52a4fb02bdb56eb44d794434b1dda410a514d4"), looks := true }, kinds := [], alts := [], laidByText := true, laidKinds := [.data, .data, .data, .data, .sentinel, .sentinel, .pinned], laidTests := true, laidLooks := .later }
def DiffMostCardSaid : Prop := Claim7.holds Tryd.pinned (.plain (OpenSpec.ofChange diffMostSpec)) diffMostCard

/-- THE TIED CARD OF 'suturelaw7.DiffSides'. -/
def diffSidesCard : Claim7 := { stood := { row := diffSidesRow, standIns := [], harness := (true, "2f864645de4e56908ac717230d52a4fb02bdb56eb44d794434b1dda410a514d4"), looks := true }, kinds := [], alts := [], laidByText := true, laidKinds := [.data, .data, .data, .data, .sentinel, .sentinel, .pinned], laidTests := true, laidLooks := .later }
def DiffSidesCardSaid : Prop := Claim7.holds Tryd.pinned (.plain (OpenSpec.ofChange diffSidesSpec)) diffSidesCard

/-- THE TIED CARD OF 'suturelaw7.DiffOther'. -/
def diffOtherCard : Claim7 := { stood := { row := diffOtherRow, standIns := [], harness := (true, "2f864645de4e56908ac717230d52a4fb02bdb56eb44d794434b1dda410a514d4"), looks := true }, kinds := [], alts := [], laidByText := true, laidKinds := [.data, .data, .data, .data, .sentinel, .sentinel, .pinned], laidTests := true, laidLooks := .later }
def DiffOtherCardSaid : Prop := Claim7.holds Tryd.pinned (.plain (OpenSpec.ofChange diffOtherSpec)) diffOtherCard

/-- THE SECOND FORM's CARD OF 'suturelaw7.DiffKnown'. -/
def diffKnownUptoCard : Claim7 := { stood := { row := diffKnownUptoRow, standIns := [], harness := (true, "2f864645de4e56908ac717230d52a4fb02bdb56eb44d794434b1dda410a514d4"), looks := true }, kinds := [], alts := [], laidByText := true, laidKinds := [.data, .data, .data, .data, .sentinel, .sentinel, .pinned], laidTests := true, laidLooks := .later }
def DiffKnownUptoCardSaid : Prop := Claim7.holds Tryd.pinned (.plain (OpenSpec.upto diffKnownSpec)) diffKnownUptoCard

/-- THE SECOND FORM's CARD OF 'suturelaw7.DiffTells'. -/
def diffTellsUptoCard : Claim7 := { stood := { row := diffTellsUptoRow, standIns := [], harness := (true, "2f864645de4e56908ac717230d52a4fb02bdb56eb44d794434b1dda410a514d4"), looks := true }, kinds := [], alts := [], laidByText := true, laidKinds := [.data, .data, .data, .data, .sentinel, .sentinel, .pinned], laidTests := true, laidLooks := .later }
def DiffTellsUptoCardSaid : Prop := Claim7.holds Tryd.pinned (.plain (OpenSpec.upto diffTellsSpec)) diffTellsUptoCard

/-- THE SECOND FORM's CARD OF 'suturelaw7.DiffBack'. -/
def diffBackUptoCard : Claim7 := { stood := { row := diffBackUptoRow, standIns := [], harness := (true, "2f864645de4e56908ac717230d52a4fb02bdb56eb44d794434b1dda410a514d4"), looks := true }, kinds := [], alts := [], laidByText := true, laidKinds := [.data, .data, .data, .data, .sentinel, .sentinel, .pinned], laidTests := true, laidLooks := .later }
def DiffBackUptoCardSaid : Prop := Claim7.holds Tryd.pinned (.plain (OpenSpec.upto diffBackSpec)) diffBackUptoCard

/-- THE SECOND FORM's CARD OF 'suturelaw7.DiffMost'. -/
def diffMostUptoCard : Claim7 := { stood := { row := diffMostUptoRow, standIns := [], harness := (true, "2f864645de4e56908ac717230d52a4fb02bdb56eb44d794434b1dda410a514d4"), looks := true }, kinds := [], alts := [], laidByText := true, laidKinds := [.data, .data, .data, .data, .sentinel, .sentinel, .pinned], laidTests := true, laidLooks := .later }
def DiffMostUptoCardSaid : Prop := Claim7.holds Tryd.pinned (.plain (OpenSpec.upto diffMostSpec)) diffMostUptoCard

/-- THE SECOND FORM's CARD OF 'suturelaw7.DiffSides'. -/
def diffSidesUptoCard : Claim7 := { stood := { row := diffSidesUptoRow, standIns := [], harness := (true, "2f864645de4e56908ac717230d52a4fb02bdb56eb44d794434b1dda410a514d4"), looks := true }, kinds := [], alts := [], laidByText := true, laidKinds := [.data, .data, .data, .data, .sentinel, .sentinel, .pinned], laidTests := true, laidLooks := .later }
def DiffSidesUptoCardSaid : Prop := Claim7.holds Tryd.pinned (.plain (OpenSpec.upto diffSidesSpec)) diffSidesUptoCard

/-- THE SECOND FORM's CARD OF 'suturelaw7.DiffOther'. -/
def diffOtherUptoCard : Claim7 := { stood := { row := diffOtherUptoRow, standIns := [], harness := (true, "2f864645de4e56908ac717230d52a4fb02bdb56eb44d794434b1dda410a514d4"), looks := true }, kinds := [], alts := [], laidByText := true, laidKinds := [.data, .data, .data, .data, .sentinel, .sentinel, .pinned], laidTests := true, laidLooks := .later }
def DiffOtherUptoCardSaid : Prop := Claim7.holds Tryd.pinned (.plain (OpenSpec.upto diffOtherSpec)) diffOtherUptoCard
end Rows
end Go.Proofs.YtimkclpogbfciaaDoor
