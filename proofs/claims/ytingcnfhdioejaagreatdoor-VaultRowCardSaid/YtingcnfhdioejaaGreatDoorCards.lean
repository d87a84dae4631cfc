/-
  DERIVED. GIVEN WITH THE SEED: THE CARDS: each row of YtingcnfhdioejaaGreatDoorRows.lean that lists a variable, with what it lists TIED to the program's text (the seventh form; the later family's looks); each row that meets fmt, with fmt's text TOLD by the authors' own Lean function (tested against real Go, not proved from fmt's source: count such statements apart). THE CARD IS WHAT COUNTS. Prove the row's statement (the work); the ties are given (YtingcnfhdioejaaGreatDoorTie.lean); close each card by the builder's one call (the guide's Derived/Test/ToyasCard.lean, 'card_holds'). Laid BY PROGRAM, IN A SANDBOX (cutbox-door.mjs). By AI agents, Wed Nov 11 2026. No macro, syntax, notation, axiom, sorry.
-/
import Derived.Test.YtingcnfhdioejaaGreatDoorRows
import GoSem.ClaimSeven
namespace Go.Proofs.YtingcnfhdioejaaGreatDoor
namespace Rows

/-- THE TIED CARD OF 'keyholelaw26.VaultDoes'. -/
def vaultDoesCard : Claim7 := { stood := { row := vaultDoesRow, standIns := [], harness := (true, "960985e275f770488e9f2da249b0968e6dbeadf5898e733c973abdfb5662d83e"), looks := false }, kinds := [], alts := [], laidByText := true, laidKinds := [.data, .data, .data, .data, .data], laidTests := true, laidLooks := .later }
def VaultDoesCardSaid : Prop := Claim7.holds Tryz.pinned (.plain (OpenSpec.ofChange vaultDoesSpec)) vaultDoesCard

/-- THE TIED CARD OF 'keyholelaw26.VaultBack'. -/
def vaultBackCard : Claim7 := { stood := { row := vaultBackRow, standIns := [], harness := (true, "960985e275f770488e9f2da249b0968e6dbeadf5898e733c973abdfb5662d83e"), looks := false }, kinds := [], alts := [], laidByText := true, laidKinds := [.data, .data, .data, .data, .data], laidTests := true, laidLooks := .later }
def VaultBackCardSaid : Prop := Claim7.holds Tryz.pinned (.plain (OpenSpec.ofChange vaultBackSpec)) vaultBackCard

/-- THE TIED CARD OF 'keyholelaw26.VaultCrash'. -/
def vaultCrashCard : Claim7 := { stood := { row := vaultCrashRow, standIns := [], harness := (true, "960985e275f770488e9f2da249b0968e6dbeadf5898e733c973abdfb5662d83e"), looks := false }, kinds := [], alts := [], laidByText := true, laidKinds := [.data, .data, .data, .data, .data], laidTests := true, laidLooks := .later }
def VaultCrashCardSaid : Prop := Claim7.holds Tryz.pinned (.plain (OpenSpec.ofChange vaultCrashSpec)) vaultCrashCard

/-- THE TIED CARD OF 'keyholelaw26.VaultStays'. -/
def vaultStaysCard : Claim7 := { stood := { row := vaultStaysRow, standIns := [], harness := (true, "960985e275f770488e9f2da249b0968e6dbeadf5898e733c973abdfb5662d83e"), looks := false }, kinds := [], alts := [], laidByText := true, laidKinds := [.data, .data, .data, .data, .data], laidTests := true, laidLooks := .later }
def VaultStaysCardSaid : Prop := Claim7.holds Tryz.pinned (.plain (OpenSpec.ofChange vaultStaysSpec)) vaultStaysCard

/-- THE TIED CARD OF 'keyholelaw26.VaultRow'. -/
def vaultRowCard : Claim7 := { stood := { row := vaultRowRow, standIns := [], harness := (true, "960985e275f770488e9f2da249b0968e6dbeadf5898e733c973abdfb5662d83e"), looks := false }, kinds := [], alts := [], laidByText := true, laidKinds := [.data, .data, .data, .data, .data], laidTests := true, laidLooks := .later }
def VaultRowCardSaid : Prop := Claim7.holds Tryz.pinned (.plain (OpenSpec.ofChange vaultRowSpec)) vaultRowCard

/-- THE SECOND FORM's CARD OF 'keyholelaw26.VaultDoes'. -/
def vaultDoesUptoCard : Claim7 := { stood := { row := vaultDoesUptoRow, standIns := [], harness := (true, "960985e275f770488e9f2da249b0968e6dbeadf5898e733c973abdfb5662d83e"), looks := false }, kinds := [], alts := [], laidByText := true, laidKinds := [.data, .data, .data, .data, .data], laidTests := true, laidLooks := .later }
def VaultDoesUptoCardSaid : Prop := Claim7.holds Tryz.pinned (.plain (OpenSpec.upto vaultDoesSpec)) vaultDoesUptoCard

/-- THE SECOND FORM's CARD OF 'keyholelaw26.VaultBack'. -/
def vaultBackUptoCard : Claim7 := { stood := { row := vaultBackUptoRow, standIns := [], harness := (true, "960985e275f770488e9f2da249b0968e6dbeadf5898e733c973abdfb5662d83e"), looks := false }, kinds := [], alts := [], laidByText := true, laidKinds := [.data, .data, .data, .data, .data], laidTests := true, laidLooks := .later }
def VaultBackUptoCardSaid : Prop := Claim7.holds Tryz.pinned (.plain (OpenSpec.upto vaultBackSpec)) vaultBackUptoCard

/-- THE SECOND FORM's CARD OF 'keyholelaw26.VaultCrash'. -/
def vaultCrashUptoCard : Claim7 := { stood := { row := vaultCrashUptoRow, standIns := [], harness := (true, "960985e275f770488e9f2da249b0968e6dbeadf5898e733c973abdfb5662d83e"), looks := false }, kinds := [], alts := [], laidByText := true, laidKinds := [.data, .data, .data, .data, .data], laidTests := true, laidLooks := .later }
def VaultCrashUptoCardSaid : Prop := Claim7.holds Tryz.pinned (.plain (OpenSpec.upto vaultCrashSpec)) vaultCrashUptoCard

/-- THE SECOND FORM's CARD OF 'keyholelaw26.VaultStays'. -/
def vaultStaysUptoCard : Claim7 := { stood := { row := vaultStaysUptoRow, standIns := [], harness := (true, "960985e275f770488e9f2da249b0968e6dbeadf5898e733c973abdfb5662d83e"), looks := false }, kinds := [], alts := [], laidByText := true, laidKinds := [.data, .data, .data, .data, .data], laidTests := true, laidLooks := .later }
def VaultStaysUptoCardSaid : Prop := Claim7.holds Tryz.pinned (.plain (OpenSpec.upto vaultStaysSpec)) vaultStaysUptoCard

/-- THE SECOND FORM's CARD OF 'keyholelaw26.VaultRow'. -/
def vaultRowUptoCard : Claim7 := { stood := { row := vaultRowUptoRow, standIns := [], harness := (true, "960985e275f770488e9f2da249b0968e6dbeadf5898e733c973abdfb5662d83e"), looks := false }, kinds := [], alts := [], laidByText := true, laidKinds := [.data, .data, .data, .data, .data], laidTests := true, laidLooks := .later }
def VaultRowUptoCardSaid : Prop := Claim7.holds Tryz.pinned (.plain (OpenSpec.upto vaultRowSpec)) vaultRowUptoCard
end Rows
end Go.Proofs.YtingcnfhdioejaaGreatDoor
