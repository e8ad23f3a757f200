/-
  DERIVED. GIVEN WITH THE SEED: THE CARDS: each row of YtnjedgpidalioaaGreatDoorRows.lean that lists a variable, with what it lists TIED to the program's text (the seventh form; the later family's looks); each row that meets fmt, with fmt's text TOLD by the authors' own Lean function (tested against real Go, not proved from fmt's source: count such statements apart). THE CARD IS WHAT COUNTS. Prove the row's statement (the work); the ties are given (YtnjedgpidalioaaGreatDoorTie.lean); close each card by the builder's one call (the guide's Derived/Test/ToyasCard.lean, 'card_holds'). Laid BY PROGRAM, IN A SANDBOX (cutbox-door.mjs). By AI agents, Wed Nov 11 2026. No macro, syntax, notation, axiom, sorry.
-/
import Derived.Test.YtnjedgpidalioaaGreatDoorRows
import GoSem.ClaimSeven
namespace Go.Proofs.YtnjedgpidalioaaGreatDoor
namespace Rows

/-- THE TIED CARD OF 'cordwoodlaw37.SettleClean'. -/
def settleCleanCard : Claim7 := { stood := { row := settleCleanRow, standIns := [], harness := (true, "78f7a1ed5095fdb7cbef4f2bed1c3fbf427d29bdbf9613e14dd82bc6bfb42d47"), looks := false }, kinds := [], alts := [], laidByText := true, laidKinds := [.data, .data, .data, .data, .pinned], laidTests := true, laidLooks := .later }
def SettleCleanCardSaid : Prop := Claim7.holds Tryz.pinned (.plain (OpenSpec.ofChange settleCleanSpec)) settleCleanCard

/-- THE TIED CARD OF 'cordwoodlaw37.SettleApart'. -/
def settleApartCard : Claim7 := { stood := { row := settleApartRow, standIns := [], harness := (true, "78f7a1ed5095fdb7cbef4f2bed1c3fbf427d29bdbf9613e14dd82bc6bfb42d47"), looks := false }, kinds := [], alts := [], laidByText := true, laidKinds := [.data, .data, .data, .data, .pinned], laidTests := true, laidLooks := .later }
def SettleApartCardSaid : Prop := Claim7.holds Tryz.pinned (.plain (OpenSpec.ofChange settleApartSpec)) settleApartCard

/-- THE TIED CARD OF 'cordwoodlaw37.SettleFiles'. -/
def settleFilesCard : Claim7 := { stood := { row := settleFilesRow, standIns := [], harness := (true, "78f7a1ed5095fdb7cbef4f2bed1c3fbf427d29bdbf9613e14dd82bc6bfb42d47"), looks := false }, kinds := [], alts := [], laidByText := true, laidKinds := [.data, .data, .data, .data, .pinned], laidTests := true, laidLooks := .later }
def SettleFilesCardSaid : Prop := Claim7.holds Tryz.pinned (.plain (OpenSpec.ofChange settleFilesSpec)) settleFilesCard

/-- THE SECOND FORM's CARD OF 'cordwoodlaw37.SettleClean'. -/
def settleCleanUptoCard : Claim7 := { stood := { row := settleCleanUptoRow, standIns := [], harness := (true, "78f7a1ed5095fdb7cbef4f2bed1c3fbf427d29bdbf9613e14dd82bc6bfb42d47"), looks := false }, kinds := [], alts := [], laidByText := true, laidKinds := [.data, .data, .data, .data, .pinned], laidTests := true, laidLooks := .later }
def SettleCleanUptoCardSaid : Prop := Claim7.holds Tryz.pinned (.plain (OpenSpec.upto settleCleanSpec)) settleCleanUptoCard

/-- THE SECOND FORM's CARD OF 'cordwoodlaw37.SettleApart'. -/
def settleApartUptoCard : Claim7 := { stood := { row := settleApartUptoRow, standIns := [], harness := (true, "78f7a1ed5095fdb7cbef4f2bed1c3fbf427d29bdbf9613e14dd82bc6bfb42d47"), looks := false }, kinds := [], alts := [], laidByText := true, laidKinds := [.data, .data, .data, .data, .pinned], laidTests := true, laidLooks := .later }
def SettleApartUptoCardSaid : Prop := Claim7.holds Tryz.pinned (.plain (OpenSpec.upto settleApartSpec)) settleApartUptoCard

/-- THE SECOND FORM's CARD OF 'cordwoodlaw37.SettleFiles'. -/
def settleFilesUptoCard : Claim7 := { stood := { row := settleFilesUptoRow, standIns := [], harness := (true, "78f7a1ed5095fdb7cbef4f2bed1c3fbf427d29bdbf9613e14dd82bc6bfb42d47"), looks := false }, kinds := [], alts := [], laidByText := true, laidKinds := [.data, .data, .data, .data, .pinned], laidTests := true, laidLooks := .later }
def SettleFilesUptoCardSaid : Prop := Claim7.holds Tryz.pinned (.plain (OpenSpec.upto settleFilesSpec)) settleFilesUptoCard
end Rows
end Go.Proofs.YtnjedgpidalioaaGreatDoor
