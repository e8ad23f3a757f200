/-
  DERIVED. GIVEN WITH THE SEED: THE CARDS: each row of YtnphcjpccieljaaGreatDoorRows.lean that lists a variable, with what it lists TIED to the program's text (the seventh form; the later family's looks); each row that meets fmt, with fmt's text TOLD by the authors' own Lean function (tested against real Go, not proved from fmt's source: count such statements apart). THE CARD IS WHAT COUNTS. Prove the row's statement (the work); the ties are given (YtnphcjpccieljaaGreatDoorTie.lean); close each card by the builder's one call (the guide's Derived/Test/ToyasCard.lean, 'card_holds'). Laid BY PROGRAM, IN A SANDBOX (cutbox-door.mjs). By AI agents, Wed Nov 11 2026. No macro, syntax, notation, axiom, sorry.
-/
import Derived.Test.YtnphcjpccieljaaGreatDoorRows
import GoSem.ClaimSeven
namespace Go.Proofs.YtnphcjpccieljaaGreatDoor
namespace Rows

/-- THE TIED CARD OF 'cordwoodlaw21.SyntaxSources'. -/
def syntaxSourcesCard : Claim7 := { stood := { row := syntaxSourcesRow, standIns := [], harness := (true, "a56ef186c199626f70c0e3a99afe1e5a54332c88c63af6191917ea1f28206846"), looks := false }, kinds := [], alts := [], laidByText := true, laidKinds := [.data, .data, .data, .data, .pinned], laidTests := true, laidLooks := .later }
def SyntaxSourcesCardSaid : Prop := Claim7.holds Tryz.pinned (.plain (OpenSpec.ofChange syntaxSourcesSpec)) syntaxSourcesCard

/-- THE TIED CARD OF 'cordwoodlaw21.SyntaxDistinct'. -/
def syntaxDistinctCard : Claim7 := { stood := { row := syntaxDistinctRow, standIns := [], harness := (true, "a56ef186c199626f70c0e3a99afe1e5a54332c88c63af6191917ea1f28206846"), looks := false }, kinds := [], alts := [], laidByText := true, laidKinds := [.data, .data, .data, .data, .pinned], laidTests := true, laidLooks := .later }
def SyntaxDistinctCardSaid : Prop := Claim7.holds Tryz.pinned (.plain (OpenSpec.ofChange syntaxDistinctSpec)) syntaxDistinctCard

/-- THE TIED CARD OF 'cordwoodlaw21.SyntaxFree'. -/
def syntaxFreeCard : Claim7 := { stood := { row := syntaxFreeRow, standIns := [], harness := (true, "a56ef186c199626f70c0e3a99afe1e5a54332c88c63af6191917ea1f28206846"), looks := false }, kinds := [], alts := [], laidByText := true, laidKinds := [.data, .data, .data, .data, .pinned], laidTests := true, laidLooks := .later }
def SyntaxFreeCardSaid : Prop := Claim7.holds Tryz.pinned (.plain (OpenSpec.ofChange syntaxFreeSpec)) syntaxFreeCard

/-- THE TIED CARD OF 'cordwoodlaw21.SyntaxParts'. -/
def syntaxPartsCard : Claim7 := { stood := { row := syntaxPartsRow, standIns := [], harness := (true, "a56ef186c199626f70c0e3a99afe1e5a54332c88c63af6191917ea1f28206846"), looks := false }, kinds := [], alts := [], laidByText := true, laidKinds := [.data, .data, .data, .data, .pinned], laidTests := true, laidLooks := .later }
def SyntaxPartsCardSaid : Prop := Claim7.holds Tryz.pinned (.plain (OpenSpec.ofChange syntaxPartsSpec)) syntaxPartsCard

/-- THE TIED CARD OF 'cordwoodlaw21.SyntaxDifferent'. -/
def syntaxDifferentCard : Claim7 := { stood := { row := syntaxDifferentRow, standIns := [], harness := (true, "a56ef186c199626f70c0e3a99afe1e5a54332c88c63af6191917ea1f28206846"), looks := false }, kinds := [], alts := [], laidByText := true, laidKinds := [.data, .data, .data, .data, .pinned], laidTests := true, laidLooks := .later }
def SyntaxDifferentCardSaid : Prop := Claim7.holds Tryz.pinned (.plain (OpenSpec.ofChange syntaxDifferentSpec)) syntaxDifferentCard

/-- THE TIED CARD OF 'cordwoodlaw21.SyntaxExprs'. -/
def syntaxExprsCard : Claim7 := { stood := { row := syntaxExprsRow, standIns := [], harness := (true, "a56ef186c199626f70c0e3a99afe1e5a54332c88c63af6191917ea1f28206846"), looks := false }, kinds := [], alts := [], laidByText := true, laidKinds := [.data, .data, .data, .data, .pinned], laidTests := true, laidLooks := .later }
def SyntaxExprsCardSaid : Prop := Claim7.holds Tryz.pinned (.plain (OpenSpec.ofChange syntaxExprsSpec)) syntaxExprsCard

/-- THE TIED CARD OF 'cordwoodlaw21.SyntaxOccurs'. -/
def syntaxOccursCard : Claim7 := { stood := { row := syntaxOccursRow, standIns := [], harness := (true, "a56ef186c199626f70c0e3a99afe1e5a54332c88c63af6191917ea1f28206846"), looks := false }, kinds := [], alts := [], laidByText := true, laidKinds := [.data, .data, .data, .data, .pinned], laidTests := true, laidLooks := .later }
def SyntaxOccursCardSaid : Prop := Claim7.holds Tryz.pinned (.plain (OpenSpec.ofChange syntaxOccursSpec)) syntaxOccursCard

/-- THE TIED CARD OF 'cordwoodlaw21.SyntaxLines'. -/
def syntaxLinesCard : Claim7 := { stood := { row := syntaxLinesRow, standIns := [], harness := (true, "a56ef186c199626f70c0e3a99afe1e5a54332c88c63af6191917ea1f28206846"), looks := false }, kinds := [], alts := [], laidByText := true, laidKinds := [.data, .data, .data, .data, .pinned], laidTests := true, laidLooks := .later }
def SyntaxLinesCardSaid : Prop := Claim7.holds Tryz.pinned (.plain (OpenSpec.ofChange syntaxLinesSpec)) syntaxLinesCard

/-- THE SECOND FORM's CARD OF 'cordwoodlaw21.SyntaxSources'. -/
def syntaxSourcesUptoCard : Claim7 := { stood := { row := syntaxSourcesUptoRow, standIns := [], harness := (true, "a56ef186c199626f70c0e3a99afe1e5a54332c88c63af6191917ea1f28206846"), looks := false }, kinds := [], alts := [], laidByText := true, laidKinds := [.data, .data, .data, .data, .pinned], laidTests := true, laidLooks := .later }
def SyntaxSourcesUptoCardSaid : Prop := Claim7.holds Tryz.pinned (.plain (OpenSpec.upto syntaxSourcesSpec)) syntaxSourcesUptoCard

/-- THE SECOND FORM's CARD OF 'cordwoodlaw21.SyntaxDistinct'. -/
def syntaxDistinctUptoCard : Claim7 := { stood := { row := syntaxDistinctUptoRow, standIns := [], harness := (true, "a56ef186c199626f70c0e3a99afe1e5a54332c88c63af6191917ea1f28206846"), looks := false }, kinds := [], alts := [], laidByText := true, laidKinds := [.data, .data, .data, .data, .pinned], laidTests := true, laidLooks := .later }
def SyntaxDistinctUptoCardSaid : Prop := Claim7.holds Tryz.pinned (.plain (OpenSpec.upto syntaxDistinctSpec)) syntaxDistinctUptoCard

/-- THE SECOND FORM's CARD OF 'cordwoodlaw21.SyntaxFree'. -/
def syntaxFreeUptoCard : Claim7 := { stood := { row := syntaxFreeUptoRow, standIns := [], harness := (true, "a56ef186c199626f70c0e3a99afe1e5a54332c88c63af6191917ea1f28206846"), looks := false }, kinds := [], alts := [], laidByText := true, laidKinds := [.data, .data, .data, .data, .pinned], laidTests := true, laidLooks := .later }
def SyntaxFreeUptoCardSaid : Prop := Claim7.holds Tryz.pinned (.plain (OpenSpec.upto syntaxFreeSpec)) syntaxFreeUptoCard

/-- THE SECOND FORM's CARD OF 'cordwoodlaw21.SyntaxParts'. -/
def syntaxPartsUptoCard : Claim7 := { stood := { row := syntaxPartsUptoRow, standIns := [], harness := (true, "a56ef186c199626f70c0e3a99afe1e5a54332c88c63af6191917ea1f28206846"), looks := false }, kinds := [], alts := [], laidByText := true, laidKinds := [.data, .data, .data, .data, .pinned], laidTests := true, laidLooks := .later }
def SyntaxPartsUptoCardSaid : Prop := Claim7.holds Tryz.pinned (.plain (OpenSpec.upto syntaxPartsSpec)) syntaxPartsUptoCard

/-- THE SECOND FORM's CARD OF 'cordwoodlaw21.SyntaxDifferent'. -/
def syntaxDifferentUptoCard : Claim7 := { stood := { row := syntaxDifferentUptoRow, standIns := [], harness := (true, "a56ef186c199626f70c0e3a99afe1e5a54332c88c63af6191917ea1f28206846"), looks := false }, kinds := [], alts := [], laidByText := true, laidKinds := [.data, .data, .data, .data, .pinned], laidTests := true, laidLooks := .later }
def SyntaxDifferentUptoCardSaid : Prop := Claim7.holds Tryz.pinned (.plain (OpenSpec.upto syntaxDifferentSpec)) syntaxDifferentUptoCard

/-- THE SECOND FORM's CARD OF 'cordwoodlaw21.SyntaxExprs'. -/
def syntaxExprsUptoCard : Claim7 := { stood := { row := syntaxExprsUptoRow, standIns := [], harness := (true, "a56ef186c199626f70c0e3a99afe1e5a54332c88c63af6191917ea1f28206846"), looks := false }, kinds := [], alts := [], laidByText := true, laidKinds := [.data, .data, .data, .data, .pinned], laidTests := true, laidLooks := .later }
def SyntaxExprsUptoCardSaid : Prop := Claim7.holds Tryz.pinned (.plain (OpenSpec.upto syntaxExprsSpec)) syntaxExprsUptoCard

/-- THE SECOND FORM's CARD OF 'cordwoodlaw21.SyntaxOccurs'. -/
def syntaxOccursUptoCard : Claim7 := { stood := { row := syntaxOccursUptoRow, standIns := [], harness := (true, "a56ef186c199626f70c0e3a99afe1e5a54332c88c63af6191917ea1f28206846"), looks := false }, kinds := [], alts := [], laidByText := true, laidKinds := [.data, .data, .data, .data, .pinned], laidTests := true, laidLooks := .later }
def SyntaxOccursUptoCardSaid : Prop := Claim7.holds Tryz.pinned (.plain (OpenSpec.upto syntaxOccursSpec)) syntaxOccursUptoCard

/-- THE SECOND FORM's CARD OF 'cordwoodlaw21.SyntaxLines'. -/
def syntaxLinesUptoCard : Claim7 := { stood := { row := syntaxLinesUptoRow, standIns := [], harness := (true, "a56ef186c199626f70c0e3a99afe1e5a54332c88c63af6191917ea1f28206846"), looks := false }, kinds := [], alts := [], laidByText := true, laidKinds := [.data, .data, .data, .data, .pinned], laidTests := true, laidLooks := .later }
def SyntaxLinesUptoCardSaid : Prop := Claim7.holds Tryz.pinned (.plain (OpenSpec.upto syntaxLinesSpec)) syntaxLinesUptoCard
end Rows
end Go.Proofs.YtnphcjpccieljaaGreatDoor
