/-
  DERIVED. GIVEN WITH THE SEED: THE CARDS: each row of YtnnolijagpakiaaGreatDoorRows.lean that lists a variable, with what it lists TIED to the program's text (the seventh form; the later family's looks); each row that meets fmt, with fmt's text TOLD by the authors' own Lean function (tested against real Go, not proved from fmt's source: count such statements apart). THE CARD IS WHAT COUNTS. Prove the row's statement (the work); the ties are given (YtnnolijagpakiaaGreatDoorTie.lean); close each card by the builder's one call (the guide's Derived/Test/ToyasCard.lean, 'card_holds'). Laid BY PROGRAM, IN A SANDBOX (cutbox-door.mjs). By AI agents, Wed Nov 11 2026. No macro, syntax, notation, axiom, sorry.
-/
import Derived.Test.YtnnolijagpakiaaGreatDoorRows
import GoSem.ClaimSeven
namespace Go.Proofs.YtnnolijagpakiaaGreatDoor
namespace Rows

/-- THE TIED CARD OF 'cordwoodlaw22.ParserParse'. -/
def parserParseCard : Claim7 := { stood := { row := parserParseRow, standIns := [], harness := (true, "54e4c0a8f661914250ad8967081cc4fa5ec9bfe3aa89068ee88ff0a8a8ca372b"), looks := true }, kinds := [], alts := [], laidByText := true, laidKinds := [.data, .data, .data, .data, .sentinel, .sentinel, .pinned], laidTests := true, laidLooks := .later }
def ParserParseCardSaid : Prop := Claim7.holds Tryz.pinned (.plain (OpenSpec.ofChange parserParseSpec)) parserParseCard

/-- THE TIED CARD OF 'cordwoodlaw22.ParserExpr'. -/
def parserExprCard : Claim7 := { stood := { row := parserExprRow, standIns := [], harness := (true, "54e4c0a8f661914250ad8967081cc4fa5ec9bfe3aa89068ee88ff0a8a8ca372b"), looks := true }, kinds := [], alts := [], laidByText := true, laidKinds := [.data, .data, .data, .data, .sentinel, .sentinel, .pinned], laidTests := true, laidLooks := .later }
def ParserExprCardSaid : Prop := Claim7.holds Tryz.pinned (.plain (OpenSpec.ofChange parserExprSpec)) parserExprCard

/-- THE TIED CARD OF 'cordwoodlaw22.ParserSource'. -/
def parserSourceCard : Claim7 := { stood := { row := parserSourceRow, standIns := [], harness := (true, "54e4c0a8f661914250ad8967081cc4fa5ec9bfe3aa89068ee88ff0a8a8ca372b"), looks := true }, kinds := [], alts := [], laidByText := true, laidKinds := [.data, .data, .data, .data, .sentinel, .sentinel, .pinned], laidTests := true, laidLooks := .later }
def ParserSourceCardSaid : Prop := Claim7.holds Tryz.pinned (.plain (OpenSpec.ofChange parserSourceSpec)) parserSourceCard

/-- THE TIED CARD OF 'cordwoodlaw22.ParserBeginnings'. -/
def parserBeginningsCard : Claim7 := { stood := { row := parserBeginningsRow, standIns := [], harness := (true, "54e4c0a8f661914250ad8967081cc4fa5ec9bfe3aa89068ee88ff0a8a8ca372b"), looks := true }, kinds := [], alts := [], laidByText := true, laidKinds := [.data, .data, .data, .data, .sentinel, .sentinel, .pinned], laidTests := true, laidLooks := .later }
def ParserBeginningsCardSaid : Prop := Claim7.holds Tryz.pinned (.plain (OpenSpec.ofChange parserBeginningsSpec)) parserBeginningsCard

/-- THE TIED CARD OF 'cordwoodlaw22.ParserErrors'. -/
def parserErrorsCard : Claim7 := { stood := { row := parserErrorsRow, standIns := [], harness := (true, "54e4c0a8f661914250ad8967081cc4fa5ec9bfe3aa89068ee88ff0a8a8ca372b"), looks := true }, kinds := [], alts := [], laidByText := true, laidKinds := [.data, .data, .data, .data, .sentinel, .sentinel, .pinned], laidTests := true, laidLooks := .later }
def ParserErrorsCardSaid : Prop := Claim7.holds Tryz.pinned (.plain (OpenSpec.ofChange parserErrorsSpec)) parserErrorsCard

/-- THE TIED CARD OF 'cordwoodlaw22.ParserExprs'. -/
def parserExprsCard : Claim7 := { stood := { row := parserExprsRow, standIns := [], harness := (true, "54e4c0a8f661914250ad8967081cc4fa5ec9bfe3aa89068ee88ff0a8a8ca372b"), looks := true }, kinds := [], alts := [], laidByText := true, laidKinds := [.data, .data, .data, .data, .sentinel, .sentinel, .pinned], laidTests := true, laidLooks := .later }
def ParserExprsCardSaid : Prop := Claim7.holds Tryz.pinned (.plain (OpenSpec.ofChange parserExprsSpec)) parserExprsCard

/-- THE TIED CARD OF 'cordwoodlaw22.ParserRoundTrip'. -/
def parserRoundTripCard : Claim7 := { stood := { row := parserRoundTripRow, standIns := [], harness := (true, "54e4c0a8f661914250ad8967081cc4fa5ec9bfe3aa89068ee88ff0a8a8ca372b"), looks := true }, kinds := [], alts := [], laidByText := true, laidKinds := [.data, .data, .data, .data, .sentinel, .sentinel, .pinned], laidTests := true, laidLooks := .later }
def ParserRoundTripCardSaid : Prop := Claim7.holds Tryz.pinned (.plain (OpenSpec.ofChange parserRoundTripSpec)) parserRoundTripCard

/-- THE TIED CARD OF 'cordwoodlaw22.ParserValid'. -/
def parserValidCard : Claim7 := { stood := { row := parserValidRow, standIns := [], harness := (true, "54e4c0a8f661914250ad8967081cc4fa5ec9bfe3aa89068ee88ff0a8a8ca372b"), looks := true }, kinds := [], alts := [], laidByText := true, laidKinds := [.data, .data, .data, .data, .sentinel, .sentinel, .pinned], laidTests := true, laidLooks := .later }
def ParserValidCardSaid : Prop := Claim7.holds Tryz.pinned (.plain (OpenSpec.ofChange parserValidSpec)) parserValidCard

/-- THE SECOND FORM's CARD OF 'cordwoodlaw22.ParserParse'. -/
def parserParseUptoCard : Claim7 := { stood := { row := parserParseUptoRow, standIns := [], harness := (true, "54e4c0a8f661914250ad8967081cc4fa5ec9bfe3aa89068ee88ff0a8a8ca372b"), looks := true }, kinds := [], alts := [], laidByText := true, laidKinds := [.data, .data, .data, .data, .sentinel, .sentinel, .pinned], laidTests := true, laidLooks := .later }
def ParserParseUptoCardSaid : Prop := Claim7.holds Tryz.pinned (.plain (OpenSpec.upto parserParseSpec)) parserParseUptoCard

/-- THE SECOND FORM's CARD OF 'cordwoodlaw22.ParserExpr'. -/
def parserExprUptoCard : Claim7 := { stood := { row := parserExprUptoRow, standIns := [], harness := (true, "54e4c0a8f661914250ad8967081cc4fa5ec9bfe3aa89068ee88ff0a8a8ca372b"), looks := true }, kinds := [], alts := [], laidByText := true, laidKinds := [.data, .data, .data, .data, .sentinel, .sentinel, .pinned], laidTests := true, laidLooks := .later }
def ParserExprUptoCardSaid : Prop := Claim7.holds Tryz.pinned (.plain (OpenSpec.upto parserExprSpec)) parserExprUptoCard

/-- THE SECOND FORM's CARD OF 'cordwoodlaw22.ParserSource'. -/
def parserSourceUptoCard : Claim7 := { stood := { row := parserSourceUptoRow, standIns := [], harness := (true, "54e4c0a8f661914250ad8967081cc4fa5ec9bfe3aa89068ee88ff0a8a8ca372b"), looks := true }, kinds := [], alts := [], laidByText := true, laidKinds := [.data, .data, .data, .data, .sentinel, .sentinel, .pinned], laidTests := true, laidLooks := .later }
def ParserSourceUptoCardSaid : Prop := Claim7.holds Tryz.pinned (.plain (OpenSpec.upto parserSourceSpec)) parserSourceUptoCard

/-- THE SECOND FORM's CARD OF 'cordwoodlaw22.ParserBeginnings'. -/
def parserBeginningsUptoCard : Claim7 := { stood := { row := parserBeginningsUptoRow, standIns := [], harness := (true, "54e4c0a8f661914250ad8967081cc4fa5ec9bfe3aa89068ee88ff0a8a8ca372b"), looks := true }, kinds := [], alts := [], laidByText := true, laidKinds := [.data, .data, .data, .data, .sentinel, .sentinel, .pinned], laidTests := true, laidLooks := .later }
def ParserBeginningsUptoCardSaid : Prop := Claim7.holds Tryz.pinned (.plain (OpenSpec.upto parserBeginningsSpec)) parserBeginningsUptoCard

/-- THE SECOND FORM's CARD OF 'cordwoodlaw22.ParserErrors'. -/
def parserErrorsUptoCard : Claim7 := { stood := { row := parserErrorsUptoRow, standIns := [], harness := (true, "54e4c0a8f661914250ad8967081cc4fa5ec9bfe3aa89068ee88ff0a8a8ca372b"), looks := true }, kinds := [], alts := [], laidByText := true, laidKinds := [.data, .data, .data, .data, .sentinel, .sentinel, .pinned], laidTests := true, laidLooks := .later }
def ParserErrorsUptoCardSaid : Prop := Claim7.holds Tryz.pinned (.plain (OpenSpec.upto parserErrorsSpec)) parserErrorsUptoCard

/-- THE SECOND FORM's CARD OF 'cordwoodlaw22.ParserExprs'. -/
def parserExprsUptoCard : Claim7 := { stood := { row := parserExprsUptoRow, standIns := [], harness := (true, "54e4c0a8f661914250ad8967081cc4fa5ec9bfe3aa89068ee88ff0a8a8ca372b"), looks := true }, kinds := [], alts := [], laidByText := true, laidKinds := [.data, .data, .data, .data, .sentinel, .sentinel, .pinned], laidTests := true, laidLooks := .later }
def ParserExprsUptoCardSaid : Prop := Claim7.holds Tryz.pinned (.plain (OpenSpec.upto parserExprsSpec)) parserExprsUptoCard

/-- THE SECOND FORM's CARD OF 'cordwoodlaw22.ParserRoundTrip'. -/
def parserRoundTripUptoCard : Claim7 := { stood := { row := parserRoundTripUptoRow, standIns := [], harness := (true, "54e4c0a8f661914250ad8967081cc4fa5ec9bfe3aa89068ee88ff0a8a8ca372b"), looks := true }, kinds := [], alts := [], laidByText := true, laidKinds := [.data, .data, .data, .data, .sentinel, .sentinel, .pinned], laidTests := true, laidLooks := .later }
def ParserRoundTripUptoCardSaid : Prop := Claim7.holds Tryz.pinned (.plain (OpenSpec.upto parserRoundTripSpec)) parserRoundTripUptoCard

/-- THE SECOND FORM's CARD OF 'cordwoodlaw22.ParserValid'. -/
def parserValidUptoCard : Claim7 := { stood := { row := parserValidUptoRow, standIns := [], harness := (true, "54e4c0a8f661914250ad8967081cc4fa5ec9bfe3aa89068ee88ff0a8a8ca372b"), looks := true }, kinds := [], alts := [], laidByText := true, laidKinds := [.data, .data, .data, .data, .sentinel, .sentinel, .pinned], laidTests := true, laidLooks := .later }
def ParserValidUptoCardSaid : Prop := Claim7.holds Tryz.pinned (.plain (OpenSpec.upto parserValidSpec)) parserValidUptoCard
end Rows
end Go.Proofs.YtnnolijagpakiaaGreatDoor
