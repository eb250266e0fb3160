/-
  DERIVED. GIVEN WITH THE SEED: THE CARDS: each row of YtkolhagejiabhaaDoorRows.lean that lists a variable, with what it lists TIED to the program's text (the seventh form; the later family's looks); each row that meets fmt, with fmt's text TOLD by the authors' own Lean function (tested against real Go, not proved from fmt's source: count such statements apart). THE CARD IS WHAT COUNTS. Prove the row's statement (the work); the ties are given (YtkolhagejiabhaaDoorTie.lean); close each card by the builder's one call (the guide's Derived/Test/ToyasCard.lean, 'card_holds'). Laid BY PROGRAM, IN A SANDBOX (cutbox-door.mjs). By AI agents, Wed Nov 11 2026. No macro, syntax, notation, axiom, sorry.
-/
import Derived.Test.YtkolhagejiabhaaDoorRows
import GoSem.ClaimSeven
namespace Go.Proofs.YtkolhagejiabhaaDoor
namespace Rows

/-- THE TIED CARD OF 'suturelaw1.PlaceJoins'. -/
def placeJoinsCard : Claim7 := { stood := { row := placeJoinsRow, standIns := [], harness := (true, "798aeafc34c5a1c5ab30c63dc49d93fa153f082819691b03646b869df801b62e"), looks := true }, kinds := [], alts := [], laidByText := true, laidKinds := [.data, .data, .data], laidTests := true, laidLooks := .later }
def PlaceJoinsCardSaid : Prop := Claim7.holds Tryd.pinned (.plain (OpenSpec.ofChange placeJoinsSpec)) placeJoinsCard

/-- THE TIED CARD OF 'suturelaw1.PlaceLines'. -/
def placeLinesCard : Claim7 := { stood := { row := placeLinesRow, standIns := [], harness := (true, "798aeafc34c5a1c5ab30c63dc49d93fa153f082819691b03646b869df801b62e"), looks := true }, kinds := [], alts := [], laidByText := true, laidKinds := [.data, .data, .data], laidTests := true, laidLooks := .later }
def PlaceLinesCardSaid : Prop := Claim7.holds Tryd.pinned (.plain (OpenSpec.ofChange placeLinesSpec)) placeLinesCard

/-- THE TIED CARD OF 'suturelaw1.PlaceTells'. -/
def placeTellsCard : Claim7 := { stood := { row := placeTellsRow, standIns := [], harness := (true, "798aeafc34c5a1c5ab30c63dc49d93fa153f082819691b03646b869df801b62e"), looks := true }, kinds := [], alts := [], laidByText := true, laidKinds := [.data, .data, .data], laidTests := true, laidLooks := .later }
def PlaceTellsCardSaid : Prop := Claim7.holds Tryd.pinned (.plain (OpenSpec.ofChange placeTellsSpec)) placeTellsCard

/-- THE TIED CARD OF 'suturelaw1.PlaceKeys'. -/
def placeKeysCard : Claim7 := { stood := { row := placeKeysRow, standIns := [], harness := (true, "798aeafc34c5a1c5ab30c63dc49d93fa153f082819691b03646b869df801b62e"), looks := true }, kinds := [], alts := [], laidByText := true, laidKinds := [.data, .data, .data], laidTests := true, laidLooks := .later }
def PlaceKeysCardSaid : Prop := Claim7.holds Tryd.pinned (.plain (OpenSpec.ofChange placeKeysSpec)) placeKeysCard

/-- THE TIED CARD OF 'suturelaw1.PlaceKnown'. -/
def placeKnownCard : Claim7 := { stood := { row := placeKnownRow, standIns := [], harness := (true, "798aeafc34c5a1c5ab30c63dc49d93fa153f082819691b03646b869df801b62e"), looks := true }, kinds := [], alts := [], laidByText := true, laidKinds := [.data, .data, .data], laidTests := true, laidLooks := .later }
def PlaceKnownCardSaid : Prop := Claim7.holds Tryd.pinned (.plain (OpenSpec.ofChange placeKnownSpec)) placeKnownCard

/-- THE TIED CARD OF 'suturelaw1.PlaceApart'. -/
def placeApartCard : Claim7 := { stood := { row := placeApartRow, standIns := [], harness := (true, "798aeafc34c5a1c5ab30c63dc49d93fa153f082819691b03646b869df801b62e"), looks := true }, kinds := [], alts := [], laidByText := true, laidKinds := [.data, .data, .data], laidTests := true, laidLooks := .later }
def PlaceApartCardSaid : Prop := Claim7.holds Tryd.pinned (.plain (OpenSpec.ofChange placeApartSpec)) placeApartCard

/-- THE TIED CARD OF 'suturelaw2.LexCovers'. -/
def lexCoversCard : Claim7 := { stood := { row := lexCoversRow, standIns := [], harness := (true, "798aeafc34c5a1c5ab30c63dc49d93fa153f082819691b03646b869df801b62e"), looks := true }, kinds := [], alts := [], laidByText := true, laidKinds := [.data, .data, .data, .sentinel, .sentinel], laidTests := true, laidLooks := .later }
def LexCoversCardSaid : Prop := Claim7.holds Tryd.pinned (.plain (OpenSpec.ofChange lexCoversSpec)) lexCoversCard

/-- THE TIED CARD OF 'suturelaw2.LexPrefix'. -/
def lexPrefixCard : Claim7 := { stood := { row := lexPrefixRow, standIns := [], harness := (true, "798aeafc34c5a1c5ab30c63dc49d93fa153f082819691b03646b869df801b62e"), looks := true }, kinds := [], alts := [], laidByText := true, laidKinds := [.data, .data, .data, .sentinel, .sentinel], laidTests := true, laidLooks := .later }
def LexPrefixCardSaid : Prop := Claim7.holds Tryd.pinned (.plain (OpenSpec.ofChange lexPrefixSpec)) lexPrefixCard

/-- THE TIED CARD OF 'suturelaw2.LexKnown'. -/
def lexKnownCard : Claim7 := { stood := { row := lexKnownRow, standIns := [], harness := (true, "798aeafc34c5a1c5ab30c63dc49d93fa153f082819691b03646b869df801b62e"), looks := true }, kinds := [], alts := [], laidByText := true, laidKinds := [.data, .data, .data, .sentinel, .sentinel], laidTests := true, laidLooks := .later }
def LexKnownCardSaid : Prop := Claim7.holds Tryd.pinned (.plain (OpenSpec.ofChange lexKnownSpec)) lexKnownCard

/-- THE TIED CARD OF 'suturelaw2.LexTells'. -/
def lexTellsCard : Claim7 := { stood := { row := lexTellsRow, standIns := [], harness := (true, "798aeafc34c5a1c5ab30c63dc49d93fa153f082819691b03646b869df801b62e"), looks := true }, kinds := [], alts := [], laidByText := true, laidKinds := [.data, .data, .data, .sentinel, .sentinel], laidTests := true, laidLooks := .later }
def LexTellsCardSaid : Prop := Claim7.holds Tryd.pinned (.plain (OpenSpec.ofChange lexTellsSpec)) lexTellsCard

/-- THE TIED CARD OF 'suturelaw2.LexNames'. -/
def lexNamesCard : Claim7 := { stood := { row := lexNamesRow, standIns := [], harness := (true, "798aeafc34c5a1c5ab30c63dc49d93fa153f082819691b03646b869df801b62e"), looks := true }, kinds := [], alts := [], laidByText := true, laidKinds := [.data, .data, .data, .sentinel, .sentinel], laidTests := true, laidLooks := .later }
def LexNamesCardSaid : Prop := Claim7.holds Tryd.pinned (.plain (OpenSpec.ofChange lexNamesSpec)) lexNamesCard

/-- THE SECOND FORM's CARD OF 'suturelaw1.PlaceJoins'. -/
def placeJoinsUptoCard : Claim7 := { stood := { row := placeJoinsUptoRow, standIns := [], harness := (true, "798aeafc34c5a1c5ab30c63dc49d93fa153f082819691b03646b869df801b62e"), looks := true }, kinds := [], alts := [], laidByText := true, laidKinds := [.data, .data, .data], laidTests := true, laidLooks := .later }
def PlaceJoinsUptoCardSaid : Prop := Claim7.holds Tryd.pinned (.plain (OpenSpec.upto placeJoinsSpec)) placeJoinsUptoCard

/-- THE SECOND FORM's CARD OF 'suturelaw1.PlaceLines'. -/
def placeLinesUptoCard : Claim7 := { stood := { row := placeLinesUptoRow, standIns := [], harness := (true, "798aeafc34c5a1c5ab30c63dc49d93fa153f082819691b03646b869df801b62e"), looks := true }, kinds := [], alts := [], laidByText := true, laidKinds := [.data, .data, .data], laidTests := true, laidLooks := .later }
def PlaceLinesUptoCardSaid : Prop := Claim7.holds Tryd.pinned (.plain (OpenSpec.upto placeLinesSpec)) placeLinesUptoCard

/-- THE SECOND FORM's CARD OF 'suturelaw1.PlaceTells'. -/
def placeTellsUptoCard : Claim7 := { stood := { row := placeTellsUptoRow, standIns := [], harness := (true, "798aeafc34c5a1c5ab30c63dc49d93fa153f082819691b03646b869df801b62e"), looks := true }, kinds := [], alts := [], laidByText := true, laidKinds := [.data, .data, .data], laidTests := true, laidLooks := .later }
def PlaceTellsUptoCardSaid : Prop := Claim7.holds Tryd.pinned (.plain (OpenSpec.upto placeTellsSpec)) placeTellsUptoCard

/-- THE SECOND FORM's CARD OF 'suturelaw1.PlaceKeys'. -/
def placeKeysUptoCard : Claim7 := { stood := { row := placeKeysUptoRow, standIns := [], harness := (true, "798aeafc34c5a1c5ab30c63dc49d93fa153f082819691b03646b869df801b62e"), looks := true }, kinds := [], alts := [], laidByText := true, laidKinds := [.data, .data, .data], laidTests := true, laidLooks := .later }
def PlaceKeysUptoCardSaid : Prop := Claim7.holds Tryd.pinned (.plain (OpenSpec.upto placeKeysSpec)) placeKeysUptoCard

/-- THE SECOND FORM's CARD OF 'suturelaw1.PlaceKnown'. -/
def placeKnownUptoCard : Claim7 := { stood := { row := placeKnownUptoRow, standIns := [], harness := (true, "798aeafc34c5a1c5ab30c63dc49d93fa153f082819691b03646b869df801b62e"), looks := true }, kinds := [], alts := [], laidByText := true, laidKinds := [.data, .data, .data], laidTests := true, laidLooks := .later }
def PlaceKnownUptoCardSaid : Prop := Claim7.holds Tryd.pinned (.plain (OpenSpec.upto placeKnownSpec)) placeKnownUptoCard

/-- THE SECOND FORM's CARD OF 'suturelaw1.PlaceApart'. -/
def placeApartUptoCard : Claim7 := { stood := { row := placeApartUptoRow, standIns := [], harness := (true, "798aeafc34c5a1c5ab30c63dc49d93fa153f082819691b03646b869df801b62e"), looks := true }, kinds := [], alts := [], laidByText := true, laidKinds := [.data, .data, .data], laidTests := true, laidLooks := .later }
def PlaceApartUptoCardSaid : Prop := Claim7.holds Tryd.pinned (.plain (OpenSpec.upto placeApartSpec)) placeApartUptoCard

/-- THE SECOND FORM's CARD OF 'suturelaw2.LexCovers'. -/
def lexCoversUptoCard : Claim7 := { stood := { row := lexCoversUptoRow, standIns := [], harness := (true, "798aeafc34c5a1c5ab30c63dc49d93fa153f082819691b03646b869df801b62e"), looks := true }, kinds := [], alts := [], laidByText := true, laidKinds := [.data, .data, .data, .sentinel, .sentinel], laidTests := true, laidLooks := .later }
def LexCoversUptoCardSaid : Prop := Claim7.holds Tryd.pinned (.plain (OpenSpec.upto lexCoversSpec)) lexCoversUptoCard

/-- THE SECOND FORM's CARD OF 'suturelaw2.LexPrefix'. -/
def lexPrefixUptoCard : Claim7 := { stood := { row := lexPrefixUptoRow, standIns := [], harness := (true, "798aeafc34c5a1c5ab30c63dc49d93fa153f082819691b03646b869df801b62e"), looks := true }, kinds := [], alts := [], laidByText := true, laidKinds := [.data, .data, .data, .sentinel, .sentinel], laidTests := true, laidLooks := .later }
def LexPrefixUptoCardSaid : Prop := Claim7.holds Tryd.pinned (.plain (OpenSpec.upto lexPrefixSpec)) lexPrefixUptoCard

/-- THE SECOND FORM's CARD OF 'suturelaw2.LexKnown'. -/
def lexKnownUptoCard : Claim7 := { stood := { row := lexKnownUptoRow, standIns := [], harness := (true, "798aeafc34c5a1c5ab30c63dc49d93fa153f082819691b03646b869df801b62e"), looks := true }, kinds := [], alts := [], laidByText := true, laidKinds := [.data, .data, .data, .sentinel, .sentinel], laidTests := true, laidLooks := .later }
def LexKnownUptoCardSaid : Prop := Claim7.holds Tryd.pinned (.plain (OpenSpec.upto lexKnownSpec)) lexKnownUptoCard

/-- THE SECOND FORM's CARD OF 'suturelaw2.LexTells'. -/
def lexTellsUptoCard : Claim7 := { stood := { row := lexTellsUptoRow, standIns := [], harness := (true, "798aeafc34c5a1c5ab30c63dc49d93fa153f082819691b03646b869df801b62e"), looks := true }, kinds := [], alts := [], laidByText := true, laidKinds := [.data, .data, .data, .sentinel, .sentinel], laidTests := true, laidLooks := .later }
def LexTellsUptoCardSaid : Prop := Claim7.holds Tryd.pinned (.plain (OpenSpec.upto lexTellsSpec)) lexTellsUptoCard

/-- THE SECOND FORM's CARD OF 'suturelaw2.LexNames'. -/
def lexNamesUptoCard : Claim7 := { stood := { row := lexNamesUptoRow, standIns := [], harness := (true, "798aeafc34c5a1c5ab30c63dc49d93fa153f082819691b03646b869df801b62e"), looks := true }, kinds := [], alts := [], laidByText := true, laidKinds := [.data, .data, .data, .sentinel, .sentinel], laidTests := true, laidLooks := .later }
def LexNamesUptoCardSaid : Prop := Claim7.holds Tryd.pinned (.plain (OpenSpec.upto lexNamesSpec)) lexNamesUptoCard
end Rows
end Go.Proofs.YtkolhagejiabhaaDoor
