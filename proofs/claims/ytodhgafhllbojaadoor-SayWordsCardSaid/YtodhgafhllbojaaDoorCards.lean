/-
  DERIVED. GIVEN WITH THE SEED: THE CARDS: each row of YtodhgafhllbojaaDoorRows.lean that lists a variable, with what it lists TIED to the program's text (the seventh form; the later family's looks); each row that meets fmt, with fmt's text TOLD by the authors' own Lean function (tested against real Go, not proved from fmt's source: count such statements apart). THE CARD IS WHAT COUNTS. Prove the row's statement (the work); the ties are given (YtodhgafhllbojaaDoorTie.lean); close each card by the builder's one call (the guide's Derived/Test/ToyasCard.lean, 'card_holds'). Laid BY PROGRAM, IN A SANDBOX (cutbox-door.mjs). By AI agents, Wed Nov 11 2026. No macro, syntax, notation, axiom, sorry.
-/
import Derived.Test.YtodhgafhllbojaaDoorRows
import GoSem.ClaimSeven
namespace Go.Proofs.YtodhgafhllbojaaDoor
namespace Rows

/-- THE TIED CARD OF 'crossbarlaw04.TextRight'. -/
def textRightCard : Claim7 := { stood := { row := textRightRow, standIns := [], harness := (true, "e4e6853c3238f8fd3bf590eb20d5ac84a8fa235a56c716cdc61dafc22c85b6dc"), looks := false }, kinds := [], alts := [], laidByText := true, laidKinds := [.data, .pinned], laidTests := true, laidLooks := .later }
def TextRightCardSaid : Prop := Claim7.holds Tryd.pinned (.plain (OpenSpec.ofChange textRightSpec)) textRightCard

/-- THE TIED CARD OF 'crossbarlaw04.TextBack'. -/
def textBackCard : Claim7 := { stood := { row := textBackRow, standIns := [], harness := (true, "e4e6853c3238f8fd3bf590eb20d5ac84a8fa235a56c716cdc61dafc22c85b6dc"), looks := false }, kinds := [], alts := [], laidByText := true, laidKinds := [.data, .pinned], laidTests := true, laidLooks := .later }
def TextBackCardSaid : Prop := Claim7.holds Tryd.pinned (.plain (OpenSpec.ofChange textBackSpec)) textBackCard

/-- THE TIED CARD OF 'crossbarlaw04.TextWords'. -/
def textWordsCard : Claim7 := { stood := { row := textWordsRow, standIns := [], harness := (true, "e4e6853c3238f8fd3bf590eb20d5ac84a8fa235a56c716cdc61dafc22c85b6dc"), looks := false }, kinds := [], alts := [], laidByText := true, laidKinds := [.data, .pinned], laidTests := true, laidLooks := .later }
def TextWordsCardSaid : Prop := Claim7.holds Tryd.pinned (.plain (OpenSpec.ofChange textWordsSpec)) textWordsCard

/-- THE TIED CARD OF 'crossbarlaw04.TextMay'. -/
def textMayCard : Claim7 := { stood := { row := textMayRow, standIns := [], harness := (true, "e4e6853c3238f8fd3bf590eb20d5ac84a8fa235a56c716cdc61dafc22c85b6dc"), looks := false }, kinds := [], alts := [], laidByText := true, laidKinds := [.data, .pinned], laidTests := true, laidLooks := .later }
def TextMayCardSaid : Prop := Claim7.holds Tryd.pinned (.plain (OpenSpec.ofChange textMaySpec)) textMayCard

/-- THE TIED CARD OF 'crossbarlaw30.SayRight'. -/
def sayRightCard : Claim7 := { stood := { row := sayRightRow, standIns := [], harness := (true, "e4e6853c3238f8fd3bf590eb20d5ac84a8fa235a56c716cdc61dafc22c85b6dc"), looks := false }, kinds := [], alts := [], laidByText := true, laidKinds := [.data, .data, .data, .data, .pinned], laidTests := true, laidLooks := .later }
def SayRightCardSaid : Prop := Claim7.holds Tryd.pinned (.plain (OpenSpec.ofChange sayRightSpec)) sayRightCard

/-- THE TIED CARD OF 'crossbarlaw30.SayBack'. -/
def sayBackCard : Claim7 := { stood := { row := sayBackRow, standIns := [], harness := (true, "e4e6853c3238f8fd3bf590eb20d5ac84a8fa235a56c716cdc61dafc22c85b6dc"), looks := false }, kinds := [], alts := [], laidByText := true, laidKinds := [.data, .data, .data, .data, .pinned], laidTests := true, laidLooks := .later }
def SayBackCardSaid : Prop := Claim7.holds Tryd.pinned (.plain (OpenSpec.ofChange sayBackSpec)) sayBackCard

/-- THE TIED CARD OF 'crossbarlaw30.SayWords'. -/
def sayWordsCard : Claim7 := { stood := { row := sayWordsRow, standIns := [], harness := (true, "e4e6853c3238f8fd3bf590eb20d5ac84a8fa235a56c716cdc61dafc22c85b6dc"), looks := false }, kinds := [], alts := [], laidByText := true, laidKinds := [.data, .data, .data, .data, .pinned], laidTests := true, laidLooks := .later }
def SayWordsCardSaid : Prop := Claim7.holds Tryd.pinned (.plain (OpenSpec.ofChange sayWordsSpec)) sayWordsCard

/-- THE SECOND FORM's CARD OF 'crossbarlaw04.TextRight'. -/
def textRightUptoCard : Claim7 := { stood := { row := textRightUptoRow, standIns := [], harness := (true, "e4e6853c3238f8fd3bf590eb20d5ac84a8fa235a56c716cdc61dafc22c85b6dc"), looks := false }, kinds := [], alts := [], laidByText := true, laidKinds := [.data, .pinned], laidTests := true, laidLooks := .later }
def TextRightUptoCardSaid : Prop := Claim7.holds Tryd.pinned (.plain (OpenSpec.upto textRightSpec)) textRightUptoCard

/-- THE SECOND FORM's CARD OF 'crossbarlaw04.TextBack'. -/
def textBackUptoCard : Claim7 := { stood := { row := textBackUptoRow, standIns := [], harness := (true, "e4e6853c3238f8fd3bf590eb20d5ac84a8fa235a56c716cdc61dafc22c85b6dc"), looks := false }, kinds := [], alts := [], laidByText := true, laidKinds := [.data, .pinned], laidTests := true, laidLooks := .later }
def TextBackUptoCardSaid : Prop := Claim7.holds Tryd.pinned (.plain (OpenSpec.upto textBackSpec)) textBackUptoCard

/-- THE SECOND FORM's CARD OF 'crossbarlaw04.TextWords'. -/
def textWordsUptoCard : Claim7 := { stood := { row := textWordsUptoRow, standIns := [], harness := (true, "e4e6853c3238f8fd3bf590eb20d5ac84a8fa235a56c716cdc61dafc22c85b6dc"), looks := false }, kinds := [], alts := [], laidByText := true, laidKinds := [.data, .pinned], laidTests := true, laidLooks := .later }
def TextWordsUptoCardSaid : Prop := Claim7.holds Tryd.pinned (.plain (OpenSpec.upto textWordsSpec)) textWordsUptoCard

/-- THE SECOND FORM's CARD OF 'crossbarlaw04.TextMay'. -/
def textMayUptoCard : Claim7 := { stood := { row := textMayUptoRow, standIns := [], harness := (true, "e4e6853c3238f8fd3bf590eb20d5ac84a8fa235a56c716cdc61dafc22c85b6dc"), looks := false }, kinds := [], alts := [], laidByText := true, laidKinds := [.data, .pinned], laidTests := true, laidLooks := .later }
def TextMayUptoCardSaid : Prop := Claim7.holds Tryd.pinned (.plain (OpenSpec.upto textMaySpec)) textMayUptoCard

/-- THE SECOND FORM's CARD OF 'crossbarlaw30.SayRight'. -/
def sayRightUptoCard : Claim7 := { stood := { row := sayRightUptoRow, standIns := [], harness := (true, "e4e6853c3238f8fd3bf590eb20d5ac84a8fa235a56c716cdc61dafc22c85b6dc"), looks := false }, kinds := [], alts := [], laidByText := true, laidKinds := [.data, .data, .data, .data, .pinned], laidTests := true, laidLooks := .later }
def SayRightUptoCardSaid : Prop := Claim7.holds Tryd.pinned (.plain (OpenSpec.upto sayRightSpec)) sayRightUptoCard

/-- THE SECOND FORM's CARD OF 'crossbarlaw30.SayBack'. -/
def sayBackUptoCard : Claim7 := { stood := { row := sayBackUptoRow, standIns := [], harness := (true, "e4e6853c3238f8fd3bf590eb20d5ac84a8fa235a56c716cdc61dafc22c85b6dc"), looks := false }, kinds := [], alts := [], laidByText := true, laidKinds := [.data, .data, .data, .data, .pinned], laidTests := true, laidLooks := .later }
def SayBackUptoCardSaid : Prop := Claim7.holds Tryd.pinned (.plain (OpenSpec.upto sayBackSpec)) sayBackUptoCard

/-- THE SECOND FORM's CARD OF 'crossbarlaw30.SayWords'. -/
def sayWordsUptoCard : Claim7 := { stood := { row := sayWordsUptoRow, standIns := [], harness := (true, "e4e6853c3238f8fd3bf590eb20d5ac84a8fa235a56c716cdc61dafc22c85b6dc"), looks := false }, kinds := [], alts := [], laidByText := true, laidKinds := [.data, .data, .data, .data, .pinned], laidTests := true, laidLooks := .later }
def SayWordsUptoCardSaid : Prop := Claim7.holds Tryd.pinned (.plain (OpenSpec.upto sayWordsSpec)) sayWordsUptoCard
end Rows
end Go.Proofs.YtodhgafhllbojaaDoor
