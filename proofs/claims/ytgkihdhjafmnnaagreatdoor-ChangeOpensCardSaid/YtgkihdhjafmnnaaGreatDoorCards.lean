/-
  DERIVED. GIVEN WITH THE SEED: THE CARDS: each row of YtgkihdhjafmnnaaGreatDoorRows.lean that lists a variable, with what it lists TIED to the program's text (the seventh form; the later family's looks); each row that meets fmt, with fmt's text TOLD by the authors' own Lean function (tested against real Go, not proved from fmt's source: count such statements apart). THE CARD IS WHAT COUNTS. Prove the row's statement (the work); the ties are given (YtgkihdhjafmnnaaGreatDoorTie.lean); close each card by the builder's one call (the guide's Derived/Test/ToyasCard.lean, 'card_holds'). Laid BY PROGRAM, IN A SANDBOX (cutbox-door.mjs). By AI agents, Wed Nov 11 2026. No macro, syntax, notation, axiom, sorry.
-/
import Derived.Test.YtgkihdhjafmnnaaGreatDoorRows
import GoSem.ClaimSeven
namespace Go.Proofs.YtgkihdhjafmnnaaGreatDoor
namespace Rows

/-- THE TIED CARD OF 'keyholelaw23.ChangeTwice'. -/
def changeTwiceCard : Claim7 := { stood := { row := changeTwiceRow, standIns := [], harness := (true, "249e817277c4c3edd8997297e978949167351e85bf2a4178795f5defacfa60c6"), looks := false }, kinds := [], alts := [], laidByText := true, laidKinds := [.data, .data], laidTests := true, laidLooks := .later }
def ChangeTwiceCardSaid : Prop := Claim7.holds Tryz.pinned (.plain (OpenSpec.ofChange changeTwiceSpec)) changeTwiceCard

/-- THE TIED CARD OF 'keyholelaw23.ChangeWhole'. -/
def changeWholeCard : Claim7 := { stood := { row := changeWholeRow, standIns := [], harness := (true, "249e817277c4c3edd8997297e978949167351e85bf2a4178795f5defacfa60c6"), looks := false }, kinds := [], alts := [], laidByText := true, laidKinds := [.data, .data], laidTests := true, laidLooks := .later }
def ChangeWholeCardSaid : Prop := Claim7.holds Tryz.pinned (.plain (OpenSpec.ofChange changeWholeSpec)) changeWholeCard

/-- THE TIED CARD OF 'keyholelaw23.ChangeOpens'. -/
def changeOpensCard : Claim7 := { stood := { row := changeOpensRow, standIns := [], harness := (true, "249e817277c4c3edd8997297e978949167351e85bf2a4178795f5defacfa60c6"), looks := false }, kinds := [], alts := [], laidByText := true, laidKinds := [.data, .data], laidTests := true, laidLooks := .later }
def ChangeOpensCardSaid : Prop := Claim7.holds Tryz.pinned (.plain (OpenSpec.ofChange changeOpensSpec)) changeOpensCard

/-- THE SECOND FORM's CARD OF 'keyholelaw23.ChangeTwice'. -/
def changeTwiceUptoCard : Claim7 := { stood := { row := changeTwiceUptoRow, standIns := [], harness := (true, "249e817277c4c3edd8997297e978949167351e85bf2a4178795f5defacfa60c6"), looks := false }, kinds := [], alts := [], laidByText := true, laidKinds := [.data, .data], laidTests := true, laidLooks := .later }
def ChangeTwiceUptoCardSaid : Prop := Claim7.holds Tryz.pinned (.plain (OpenSpec.upto changeTwiceSpec)) changeTwiceUptoCard

/-- THE SECOND FORM's CARD OF 'keyholelaw23.ChangeWhole'. -/
def changeWholeUptoCard : Claim7 := { stood := { row := changeWholeUptoRow, standIns := [], harness := (true, "249e817277c4c3edd8997297e978949167351e85bf2a4178795f5defacfa60c6"), looks := false }, kinds := [], alts := [], laidByText := true, laidKinds := [.data, .data], laidTests := true, laidLooks := .later }
def ChangeWholeUptoCardSaid : Prop := Claim7.holds Tryz.pinned (.plain (OpenSpec.upto changeWholeSpec)) changeWholeUptoCard

/-- THE SECOND FORM's CARD OF 'keyholelaw23.ChangeOpens'. -/
def changeOpensUptoCard : Claim7 := { stood := { row := changeOpensUptoRow, standIns := [], harness := (true, "249e817277c4c3edd8997297e978949167351e85bf2a4178795f5defacfa60c6"), looks := false }, kinds := [], alts := [], laidByText := true, laidKinds := [.data, .data], laidTests := true, laidLooks := .later }
def ChangeOpensUptoCardSaid : Prop := Claim7.holds Tryz.pinned (.plain (OpenSpec.upto changeOpensSpec)) changeOpensUptoCard
end Rows
end Go.Proofs.YtgkihdhjafmnnaaGreatDoor
