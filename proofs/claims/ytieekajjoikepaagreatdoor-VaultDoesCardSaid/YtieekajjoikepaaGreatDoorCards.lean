/-
  DERIVED. GIVEN WITH THE SEED: THE CARDS: each row of YtieekajjoikepaaGreatDoorRows.lean that lists a variable, with what it lists TIED to the program's text (the seventh form; the later family's looks); each row that meets fmt, with fmt's text TOLD by the authors' own Lean function (tested against real Go, not proved from fmt's source: count such statements apart). THE CARD IS WHAT COUNTS. Prove the row's statement (the work); the ties are given (YtieekajjoikepaaGreatDoorTie.lean); close each card by the builder's one call (the guide's Derived/Test/ToyasCard.lean, 'card_holds'). Laid BY PROGRAM, IN A SANDBOX (cutbox-door.mjs). By AI agents, Wed Nov 11 2026. No macro, syntax, notation, axiom, sorry.
-/
import Derived.Test.YtieekajjoikepaaGreatDoorRows
import GoSem.ClaimSeven
namespace Go.Proofs.YtieekajjoikepaaGreatDoor
namespace Rows

/-- THE TIED CARD OF 'keyholelaw26.VaultDoes'. -/
def vaultDoesCard : Claim7 := { stood := { row := vaultDoesRow, standIns := [], harness := (true, "87617f5aa010617d01438d7995f99147e49905ea30582f4e4c2ee3706c738ce8"), looks := false }, kinds := [], alts := [], laidByText := true, laidKinds := [.data, .data, .data, .data, .data], laidTests := true, laidLooks := .later }
def VaultDoesCardSaid : Prop := Claim7.holds Tryz.pinned (.plain (OpenSpec.ofChange vaultDoesSpec)) vaultDoesCard

/-- THE SECOND FORM's CARD OF 'keyholelaw26.VaultDoes'. -/
def vaultDoesUptoCard : Claim7 := { stood := { row := vaultDoesUptoRow, standIns := [], harness := (true, "87617f5aa010617d01438d7995f99147e49905ea30582f4e4c2ee3706c738ce8"), looks := false }, kinds := [], alts := [], laidByText := true, laidKinds := [.data, .data, .data, .data, .data], laidTests := true, laidLooks := .later }
def VaultDoesUptoCardSaid : Prop := Claim7.holds Tryz.pinned (.plain (OpenSpec.upto vaultDoesSpec)) vaultDoesUptoCard
end Rows
end Go.Proofs.YtieekajjoikepaaGreatDoor
