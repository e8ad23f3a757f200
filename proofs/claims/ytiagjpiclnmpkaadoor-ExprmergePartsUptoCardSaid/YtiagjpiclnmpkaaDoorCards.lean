/-
  DERIVED. GIVEN WITH THE SEED: THE CARDS: each row of YtiagjpiclnmpkaaDoorRows.lean that lists a variable, with what it lists TIED to the program's text (the seventh form; the later family's looks); each row that meets fmt, with fmt's text TOLD by the authors' own Lean function (tested against real Go, not proved from fmt's source: count such statements apart). THE CARD IS WHAT COUNTS. Prove the row's statement (the work); the ties are given (YtiagjpiclnmpkaaDoorTie.lean); close each card by the builder's one call (the guide's Derived/Test/ToyasCard.lean, 'card_holds'). Laid BY PROGRAM, IN A SANDBOX (cutbox-door.mjs). By AI agents, Wed Nov 11 2026. No macro, syntax, notation, axiom, sorry.
-/
import Derived.Test.YtiagjpiclnmpkaaDoorRows
import GoSem.ClaimSeven
namespace Go.Proofs.YtiagjpiclnmpkaaDoor
namespace Rows

/-- THE TIED CARD OF 'cordwoodlaw32.ExprmergeMerge'. -/
def exprmergeMergeCard : Claim7 := { stood := { row := exprmergeMergeRow, standIns := [], harness := (true, "225d2886bc21ea6aa92dd1c23fe9662892f4249a623aa8788770a98c6ba77923"), looks := false }, kinds := [], alts := [], laidByText := true, laidKinds := [.data, .pinned], laidTests := true, laidLooks := .later }
def ExprmergeMergeCardSaid : Prop := Claim7.holds Tryd.pinned (.plain (OpenSpec.ofChange exprmergeMergeSpec)) exprmergeMergeCard

/-- THE TIED CARD OF 'cordwoodlaw32.ExprmergeUnchanged'. -/
def exprmergeUnchangedCard : Claim7 := { stood := { row := exprmergeUnchangedRow, standIns := [], harness := (true, "225d2886bc21ea6aa92dd1c23fe9662892f4249a623aa8788770a98c6ba77923"), looks := false }, kinds := [], alts := [], laidByText := true, laidKinds := [.data, .pinned], laidTests := true, laidLooks := .later }
def ExprmergeUnchangedCardSaid : Prop := Claim7.holds Tryd.pinned (.plain (OpenSpec.ofChange exprmergeUnchangedSpec)) exprmergeUnchangedCard

/-- THE TIED CARD OF 'cordwoodlaw32.ExprmergeSymmetric'. -/
def exprmergeSymmetricCard : Claim7 := { stood := { row := exprmergeSymmetricRow, standIns := [], harness := (true, "225d2886bc21ea6aa92dd1c23fe9662892f4249a623aa8788770a98c6ba77923"), looks := false }, kinds := [], alts := [], laidByText := true, laidKinds := [.data, .pinned], laidTests := true, laidLooks := .later }
def ExprmergeSymmetricCardSaid : Prop := Claim7.holds Tryd.pinned (.plain (OpenSpec.ofChange exprmergeSymmetricSpec)) exprmergeSymmetricCard

/-- THE TIED CARD OF 'cordwoodlaw32.ExprmergeParts'. -/
def exprmergePartsCard : Claim7 := { stood := { row := exprmergePartsRow, standIns := [], harness := (true, "225d2886bc21ea6aa92dd1c23fe9662892f4249a623aa8788770a98c6ba77923"), looks := false }, kinds := [], alts := [], laidByText := true, laidKinds := [.data, .pinned], laidTests := true, laidLooks := .later }
def ExprmergePartsCardSaid : Prop := Claim7.holds Tryd.pinned (.plain (OpenSpec.ofChange exprmergePartsSpec)) exprmergePartsCard

/-- THE TIED CARD OF 'cordwoodlaw32.ExprmergeAgain'. -/
def exprmergeAgainCard : Claim7 := { stood := { row := exprmergeAgainRow, standIns := [], harness := (true, "225d2886bc21ea6aa92dd1c23fe9662892f4249a623aa8788770a98c6ba77923"), looks := false }, kinds := [], alts := [], laidByText := true, laidKinds := [.data, .pinned], laidTests := true, laidLooks := .later }
def ExprmergeAgainCardSaid : Prop := Claim7.holds Tryd.pinned (.plain (OpenSpec.ofChange exprmergeAgainSpec)) exprmergeAgainCard

/-- THE TIED CARD OF 'cordwoodlaw32.ExprmergeSettles'. -/
def exprmergeSettlesCard : Claim7 := { stood := { row := exprmergeSettlesRow, standIns := [], harness := (true, "225d2886bc21ea6aa92dd1c23fe9662892f4249a623aa8788770a98c6ba77923"), looks := false }, kinds := [], alts := [], laidByText := true, laidKinds := [.data, .pinned], laidTests := true, laidLooks := .later }
def ExprmergeSettlesCardSaid : Prop := Claim7.holds Tryd.pinned (.plain (OpenSpec.ofChange exprmergeSettlesSpec)) exprmergeSettlesCard

/-- THE TIED CARD OF 'cordwoodlaw32.ExprmergeOrder'. -/
def exprmergeOrderCard : Claim7 := { stood := { row := exprmergeOrderRow, standIns := [], harness := (true, "225d2886bc21ea6aa92dd1c23fe9662892f4249a623aa8788770a98c6ba77923"), looks := false }, kinds := [], alts := [], laidByText := true, laidKinds := [.data, .pinned], laidTests := true, laidLooks := .later }
def ExprmergeOrderCardSaid : Prop := Claim7.holds Tryd.pinned (.plain (OpenSpec.ofChange exprmergeOrderSpec)) exprmergeOrderCard

/-- THE SECOND FORM's CARD OF 'cordwoodlaw32.ExprmergeMerge'. -/
def exprmergeMergeUptoCard : Claim7 := { stood := { row := exprmergeMergeUptoRow, standIns := [], harness := (true, "225d2886bc21ea6aa92dd1c23fe9662892f4249a623aa8788770a98c6ba77923"), looks := false }, kinds := [], alts := [], laidByText := true, laidKinds := [.data, .pinned], laidTests := true, laidLooks := .later }
def ExprmergeMergeUptoCardSaid : Prop := Claim7.holds Tryd.pinned (.plain (OpenSpec.upto exprmergeMergeSpec)) exprmergeMergeUptoCard

/-- THE SECOND FORM's CARD OF 'cordwoodlaw32.ExprmergeUnchanged'. -/
def exprmergeUnchangedUptoCard : Claim7 := { stood := { row := exprmergeUnchangedUptoRow, standIns := [], harness := (true, "225d2886bc21ea6aa92dd1c23fe9662892f4249a623aa8788770a98c6ba77923"), looks := false }, kinds := [], alts := [], laidByText := true, laidKinds := [.data, .pinned], laidTests := true, laidLooks := .later }
def ExprmergeUnchangedUptoCardSaid : Prop := Claim7.holds Tryd.pinned (.plain (OpenSpec.upto exprmergeUnchangedSpec)) exprmergeUnchangedUptoCard

/-- THE SECOND FORM's CARD OF 'cordwoodlaw32.ExprmergeSymmetric'. -/
def exprmergeSymmetricUptoCard : Claim7 := { stood := { row := exprmergeSymmetricUptoRow, standIns := [], harness := (true, "225d2886bc21ea6aa92dd1c23fe9662892f4249a623aa8788770a98c6ba77923"), looks := false }, kinds := [], alts := [], laidByText := true, laidKinds := [.data, .pinned], laidTests := true, laidLooks := .later }
def ExprmergeSymmetricUptoCardSaid : Prop := Claim7.holds Tryd.pinned (.plain (OpenSpec.upto exprmergeSymmetricSpec)) exprmergeSymmetricUptoCard

/-- THE SECOND FORM's CARD OF 'cordwoodlaw32.ExprmergeParts'. -/
def exprmergePartsUptoCard : Claim7 := { stood := { row := exprmergePartsUptoRow, standIns := [], harness := (true, "225d2886bc21ea6aa92dd1c23fe9662892f4249a623aa8788770a98c6ba77923"), looks := false }, kinds := [], alts := [], laidByText := true, laidKinds := [.data, .pinned], laidTests := true, laidLooks := .later }
def ExprmergePartsUptoCardSaid : Prop := Claim7.holds Tryd.pinned (.plain (OpenSpec.upto exprmergePartsSpec)) exprmergePartsUptoCard

/-- THE SECOND FORM's CARD OF 'cordwoodlaw32.ExprmergeAgain'. -/
def exprmergeAgainUptoCard : Claim7 := { stood := { row := exprmergeAgainUptoRow, standIns := [], harness := (true, "225d2886bc21ea6aa92dd1c23fe9662892f4249a623aa8788770a98c6ba77923"), looks := false }, kinds := [], alts := [], laidByText := true, laidKinds := [.data, .pinned], laidTests := true, laidLooks := .later }
def ExprmergeAgainUptoCardSaid : Prop := Claim7.holds Tryd.pinned (.plain (OpenSpec.upto exprmergeAgainSpec)) exprmergeAgainUptoCard

/-- THE SECOND FORM's CARD OF 'cordwoodlaw32.ExprmergeSettles'. -/
def exprmergeSettlesUptoCard : Claim7 := { stood := { row := exprmergeSettlesUptoRow, standIns := [], harness := (true, "225d2886bc21ea6aa92dd1c23fe9662892f4249a623aa8788770a98c6ba77923"), looks := false }, kinds := [], alts := [], laidByText := true, laidKinds := [.data, .pinned], laidTests := true, laidLooks := .later }
def ExprmergeSettlesUptoCardSaid : Prop := Claim7.holds Tryd.pinned (.plain (OpenSpec.upto exprmergeSettlesSpec)) exprmergeSettlesUptoCard

/-- THE SECOND FORM's CARD OF 'cordwoodlaw32.ExprmergeOrder'. -/
def exprmergeOrderUptoCard : Claim7 := { stood := { row := exprmergeOrderUptoRow, standIns := [], harness := (true, "225d2886bc21ea6aa92dd1c23fe9662892f4249a623aa8788770a98c6ba77923"), looks := false }, kinds := [], alts := [], laidByText := true, laidKinds := [.data, .pinned], laidTests := true, laidLooks := .later }
def ExprmergeOrderUptoCardSaid : Prop := Claim7.holds Tryd.pinned (.plain (OpenSpec.upto exprmergeOrderSpec)) exprmergeOrderUptoCard
end Rows
end Go.Proofs.YtiagjpiclnmpkaaDoor
