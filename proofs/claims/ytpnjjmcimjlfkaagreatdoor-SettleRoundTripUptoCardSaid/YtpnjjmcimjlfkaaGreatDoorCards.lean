/-
  DERIVED. GIVEN WITH THE SEED: THE CARDS: each row of YtpnjjmcimjlfkaaGreatDoorRows.lean that lists a variable, with what it lists TIED to the program's text (the seventh form; the later family's looks); each row that meets fmt, with fmt's text TOLD by the authors' own Lean function (tested against real Go, not proved from fmt's source: count such statements apart). THE CARD IS WHAT COUNTS. Prove the row's statement (the work); the ties are given (YtpnjjmcimjlfkaaGreatDoorTie.lean); close each card by the builder's one call (the guide's Derived/Test/ToyasCard.lean, 'card_holds'). Laid BY PROGRAM, IN A SANDBOX (cutbox-door.mjs). By AI agents, Wed Nov 11 2026. No macro, syntax, notation, axiom, sorry.
-/
import Derived.Test.YtpnjjmcimjlfkaaGreatDoorRows
import GoSem.ClaimSeven
namespace Go.Proofs.YtpnjjmcimjlfkaaGreatDoor
namespace Rows

/-- THE TIED CARD OF 'cordwoodlaw37.SettleCheck'. -/
def settleCheckCard : Claim7 := { stood := { row := settleCheckRow, standIns := [], harness := (true, "999156373a7a918fef99724577eb1e67925cf8854a84e97cabab10e400ad1aef"), looks := false }, kinds := [], alts := [], laidByText := true, laidKinds := [.data, .data, .data, .data, .pinned], laidTests := true, laidLooks := .later }
def SettleCheckCardSaid : Prop := Claim7.holds Tryz.pinned (.plain (OpenSpec.ofChange settleCheckSpec)) settleCheckCard

/-- THE TIED CARD OF 'cordwoodlaw37.SettleChoose'. -/
def settleChooseCard : Claim7 := { stood := { row := settleChooseRow, standIns := [], harness := (true, "999156373a7a918fef99724577eb1e67925cf8854a84e97cabab10e400ad1aef"), looks := false }, kinds := [], alts := [], laidByText := true, laidKinds := [.data, .data, .data, .data, .pinned], laidTests := true, laidLooks := .later }
def SettleChooseCardSaid : Prop := Claim7.holds Tryz.pinned (.plain (OpenSpec.ofChange settleChooseSpec)) settleChooseCard

/-- THE TIED CARD OF 'cordwoodlaw37.SettleStore'. -/
def settleStoreCard : Claim7 := { stood := { row := settleStoreRow, standIns := [], harness := (true, "999156373a7a918fef99724577eb1e67925cf8854a84e97cabab10e400ad1aef"), looks := false }, kinds := [], alts := [], laidByText := true, laidKinds := [.data, .data, .data, .data, .pinned], laidTests := true, laidLooks := .later }
def SettleStoreCardSaid : Prop := Claim7.holds Tryz.pinned (.plain (OpenSpec.ofChange settleStoreSpec)) settleStoreCard

/-- THE TIED CARD OF 'cordwoodlaw37.SettleRoundTrip'. -/
def settleRoundTripCard : Claim7 := { stood := { row := settleRoundTripRow, standIns := [], harness := (true, "999156373a7a918fef99724577eb1e67925cf8854a84e97cabab10e400ad1aef"), looks := false }, kinds := [], alts := [], laidByText := true, laidKinds := [.data, .data, .data, .data, .pinned], laidTests := true, laidLooks := .later }
def SettleRoundTripCardSaid : Prop := Claim7.holds Tryz.pinned (.plain (OpenSpec.ofChange settleRoundTripSpec)) settleRoundTripCard

/-- THE SECOND FORM's CARD OF 'cordwoodlaw37.SettleCheck'. -/
def settleCheckUptoCard : Claim7 := { stood := { row := settleCheckUptoRow, standIns := [], harness := (true, "999156373a7a918fef99724577eb1e67925cf8854a84e97cabab10e400ad1aef"), looks := false }, kinds := [], alts := [], laidByText := true, laidKinds := [.data, .data, .data, .data, .pinned], laidTests := true, laidLooks := .later }
def SettleCheckUptoCardSaid : Prop := Claim7.holds Tryz.pinned (.plain (OpenSpec.upto settleCheckSpec)) settleCheckUptoCard

/-- THE SECOND FORM's CARD OF 'cordwoodlaw37.SettleChoose'. -/
def settleChooseUptoCard : Claim7 := { stood := { row := settleChooseUptoRow, standIns := [], harness := (true, "999156373a7a918fef99724577eb1e67925cf8854a84e97cabab10e400ad1aef"), looks := false }, kinds := [], alts := [], laidByText := true, laidKinds := [.data, .data, .data, .data, .pinned], laidTests := true, laidLooks := .later }
def SettleChooseUptoCardSaid : Prop := Claim7.holds Tryz.pinned (.plain (OpenSpec.upto settleChooseSpec)) settleChooseUptoCard

/-- THE SECOND FORM's CARD OF 'cordwoodlaw37.SettleStore'. -/
def settleStoreUptoCard : Claim7 := { stood := { row := settleStoreUptoRow, standIns := [], harness := (true, "999156373a7a918fef99724577eb1e67925cf8854a84e97cabab10e400ad1aef"), looks := false }, kinds := [], alts := [], laidByText := true, laidKinds := [.data, .data, .data, .data, .pinned], laidTests := true, laidLooks := .later }
def SettleStoreUptoCardSaid : Prop := Claim7.holds Tryz.pinned (.plain (OpenSpec.upto settleStoreSpec)) settleStoreUptoCard

/-- THE SECOND FORM's CARD OF 'cordwoodlaw37.SettleRoundTrip'. -/
def settleRoundTripUptoCard : Claim7 := { stood := { row := settleRoundTripUptoRow, standIns := [], harness := (true, "999156373a7a918fef99724577eb1e67925cf8854a84e97cabab10e400ad1aef"), looks := false }, kinds := [], alts := [], laidByText := true, laidKinds := [.data, .data, .data, .data, .pinned], laidTests := true, laidLooks := .later }
def SettleRoundTripUptoCardSaid : Prop := Claim7.holds Tryz.pinned (.plain (OpenSpec.upto settleRoundTripSpec)) settleRoundTripUptoCard
end Rows
end Go.Proofs.YtpnjjmcimjlfkaaGreatDoor
