/-
  DERIVED. GIVEN WITH THE SEED: THE CARDS: each row of YtckkfenchjgfhaaDoorRows.lean that lists a variable, with what it lists TIED to the program's text (the seventh form; the later family's looks); each row that meets fmt, with fmt's text TOLD by the authors' own Lean function (tested against real Go, not proved from fmt's source: count such statements apart). THE CARD IS WHAT COUNTS. Prove the row's statement (the work); the ties are given (YtckkfenchjgfhaaDoorTie.lean); close each card by the builder's one call (the guide's Derived/Test/ToyasCard.lean, 'card_holds'). Laid BY PROGRAM, IN A SANDBOX (cutbox-door.mjs). By AI agents, Wed Nov 11 2026. No macro, syntax, notation, axiom, sorry.
-/
import Derived.Test.YtckkfenchjgfhaaDoorRows
import GoSem.ClaimSeven
namespace Go.Proofs.YtckkfenchjgfhaaDoor
namespace Rows

/-- THE TIED CARD OF 'cordwoodlaw20.LexerWords'. -/
def lexerWordsCard : Claim7 := { stood := { row := lexerWordsRow, standIns := [], harness := (true, "642813e6e96e02a2e77b0b0db82e1de455023b0b4dcdeac8efc93ba511fd5d9d"), looks := false }, kinds := [], alts := [], laidByText := true, laidKinds := [.data, .pinned], laidTests := true, laidLooks := .later }
def LexerWordsCardSaid : Prop := Claim7.holds Tryd.pinned (.plain (OpenSpec.ofChange lexerWordsSpec)) lexerWordsCard

/-- THE TIED CARD OF 'cordwoodlaw20.LexerScan'. -/
def lexerScanCard : Claim7 := { stood := { row := lexerScanRow, standIns := [], harness := (true, "642813e6e96e02a2e77b0b0db82e1de455023b0b4dcdeac8efc93ba511fd5d9d"), looks := false }, kinds := [], alts := [], laidByText := true, laidKinds := [.data, .pinned], laidTests := true, laidLooks := .later }
def LexerScanCardSaid : Prop := Claim7.holds Tryd.pinned (.plain (OpenSpec.ofChange lexerScanSpec)) lexerScanCard

/-- THE TIED CARD OF 'cordwoodlaw20.LexerErrors'. -/
def lexerErrorsCard : Claim7 := { stood := { row := lexerErrorsRow, standIns := [], harness := (true, "642813e6e96e02a2e77b0b0db82e1de455023b0b4dcdeac8efc93ba511fd5d9d"), looks := false }, kinds := [], alts := [], laidByText := true, laidKinds := [.data, .pinned], laidTests := true, laidLooks := .later }
def LexerErrorsCardSaid : Prop := Claim7.holds Tryd.pinned (.plain (OpenSpec.ofChange lexerErrorsSpec)) lexerErrorsCard

/-- THE TIED CARD OF 'cordwoodlaw20.LexerSeparators'. -/
def lexerSeparatorsCard : Claim7 := { stood := { row := lexerSeparatorsRow, standIns := [], harness := (true, "642813e6e96e02a2e77b0b0db82e1de455023b0b4dcdeac8efc93ba511fd5d9d"), looks := false }, kinds := [], alts := [], laidByText := true, laidKinds := [.data, .pinned], laidTests := true, laidLooks := .later }
def LexerSeparatorsCardSaid : Prop := Claim7.holds Tryd.pinned (.plain (OpenSpec.ofChange lexerSeparatorsSpec)) lexerSeparatorsCard

/-- THE TIED CARD OF 'cordwoodlaw20.LexerPrint'. -/
def lexerPrintCard : Claim7 := { stood := { row := lexerPrintRow, standIns := [], harness := (true, "642813e6e96e02a2e77b0b0db82e1de455023b0b4dcdeac8efc93ba511fd5d9d"), looks := false }, kinds := [], alts := [], laidByText := true, laidKinds := [.data, .pinned], laidTests := true, laidLooks := .later }
def LexerPrintCardSaid : Prop := Claim7.holds Tryd.pinned (.plain (OpenSpec.ofChange lexerPrintSpec)) lexerPrintCard

/-- THE TIED CARD OF 'cordwoodlaw20.LexerRoundTrip'. -/
def lexerRoundTripCard : Claim7 := { stood := { row := lexerRoundTripRow, standIns := [], harness := (true, "642813e6e96e02a2e77b0b0db82e1de455023b0b4dcdeac8efc93ba511fd5d9d"), looks := false }, kinds := [], alts := [], laidByText := true, laidKinds := [.data, .pinned], laidTests := true, laidLooks := .later }
def LexerRoundTripCardSaid : Prop := Claim7.holds Tryd.pinned (.plain (OpenSpec.ofChange lexerRoundTripSpec)) lexerRoundTripCard

/-- THE TIED CARD OF 'cordwoodlaw20.LexerOffsets'. -/
def lexerOffsetsCard : Claim7 := { stood := { row := lexerOffsetsRow, standIns := [], harness := (true, "642813e6e96e02a2e77b0b0db82e1de455023b0b4dcdeac8efc93ba511fd5d9d"), looks := false }, kinds := [], alts := [], laidByText := true, laidKinds := [.data, .pinned], laidTests := true, laidLooks := .later }
def LexerOffsetsCardSaid : Prop := Claim7.holds Tryd.pinned (.plain (OpenSpec.ofChange lexerOffsetsSpec)) lexerOffsetsCard

/-- THE SECOND FORM's CARD OF 'cordwoodlaw20.LexerWords'. -/
def lexerWordsUptoCard : Claim7 := { stood := { row := lexerWordsUptoRow, standIns := [], harness := (true, "642813e6e96e02a2e77b0b0db82e1de455023b0b4dcdeac8efc93ba511fd5d9d"), looks := false }, kinds := [], alts := [], laidByText := true, laidKinds := [.data, .pinned], laidTests := true, laidLooks := .later }
def LexerWordsUptoCardSaid : Prop := Claim7.holds Tryd.pinned (.plain (OpenSpec.upto lexerWordsSpec)) lexerWordsUptoCard

/-- THE SECOND FORM's CARD OF 'cordwoodlaw20.LexerScan'. -/
def lexerScanUptoCard : Claim7 := { stood := { row := lexerScanUptoRow, standIns := [], harness := (true, "642813e6e96e02a2e77b0b0db82e1de455023b0b4dcdeac8efc93ba511fd5d9d"), looks := false }, kinds := [], alts := [], laidByText := true, laidKinds := [.data, .pinned], laidTests := true, laidLooks := .later }
def LexerScanUptoCardSaid : Prop := Claim7.holds Tryd.pinned (.plain (OpenSpec.upto lexerScanSpec)) lexerScanUptoCard

/-- THE SECOND FORM's CARD OF 'cordwoodlaw20.LexerErrors'. -/
def lexerErrorsUptoCard : Claim7 := { stood := { row := lexerErrorsUptoRow, standIns := [], harness := (true, "642813e6e96e02a2e77b0b0db82e1de455023b0b4dcdeac8efc93ba511fd5d9d"), looks := false }, kinds := [], alts := [], laidByText := true, laidKinds := [.data, .pinned], laidTests := true, laidLooks := .later }
def LexerErrorsUptoCardSaid : Prop := Claim7.holds Tryd.pinned (.plain (OpenSpec.upto lexerErrorsSpec)) lexerErrorsUptoCard

/-- THE SECOND FORM's CARD OF 'cordwoodlaw20.LexerSeparators'. -/
def lexerSeparatorsUptoCard : Claim7 := { stood := { row := lexerSeparatorsUptoRow, standIns := [], harness := (true, "642813e6e96e02a2e77b0b0db82e1de455023b0b4dcdeac8efc93ba511fd5d9d"), looks := false }, kinds := [], alts := [], laidByText := true, laidKinds := [.data, .pinned], laidTests := true, laidLooks := .later }
def LexerSeparatorsUptoCardSaid : Prop := Claim7.holds Tryd.pinned (.plain (OpenSpec.upto lexerSeparatorsSpec)) lexerSeparatorsUptoCard

/-- THE SECOND FORM's CARD OF 'cordwoodlaw20.LexerPrint'. -/
def lexerPrintUptoCard : Claim7 := { stood := { row := lexerPrintUptoRow, standIns := [], harness := (true, "642813e6e96e02a2e77b0b0db82e1de455023b0b4dcdeac8efc93ba511fd5d9d"), looks := false }, kinds := [], alts := [], laidByText := true, laidKinds := [.data, .pinned], laidTests := true, laidLooks := .later }
def LexerPrintUptoCardSaid : Prop := Claim7.holds Tryd.pinned (.plain (OpenSpec.upto lexerPrintSpec)) lexerPrintUptoCard

/-- THE SECOND FORM's CARD OF 'cordwoodlaw20.LexerRoundTrip'. -/
def lexerRoundTripUptoCard : Claim7 := { stood := { row := lexerRoundTripUptoRow, standIns := [], harness := (true, "642813e6e96e02a2e77b0b0db82e1de455023b0b4dcdeac8efc93ba511fd5d9d"), looks := false }, kinds := [], alts := [], laidByText := true, laidKinds := [.data, .pinned], laidTests := true, laidLooks := .later }
def LexerRoundTripUptoCardSaid : Prop := Claim7.holds Tryd.pinned (.plain (OpenSpec.upto lexerRoundTripSpec)) lexerRoundTripUptoCard

/-- THE SECOND FORM's CARD OF 'cordwoodlaw20.LexerOffsets'. -/
def lexerOffsetsUptoCard : Claim7 := { stood := { row := lexerOffsetsUptoRow, standIns := [], harness := (true, "642813e6e96e02a2e77b0b0db82e1de455023b0b4dcdeac8efc93ba511fd5d9d"), looks := false }, kinds := [], alts := [], laidByText := true, laidKinds := [.data, .pinned], laidTests := true, laidLooks := .later }
def LexerOffsetsUptoCardSaid : Prop := Claim7.holds Tryd.pinned (.plain (OpenSpec.upto lexerOffsetsSpec)) lexerOffsetsUptoCard
end Rows
end Go.Proofs.YtckkfenchjgfhaaDoor
