/-
  DERIVED. GIVEN WITH THE SEED: THE CARDS: each row of YtpngdfmifabmdaaGreatDoorRows.lean that lists a variable, with what it lists TIED to the program's text (the seventh form; the later family's looks); each row that meets fmt, with fmt's text TOLD by the authors' own Lean function (tested against real Go, not proved from fmt's source: count such statements apart). THE CARD IS WHAT COUNTS. Prove the row's statement (the work); the ties are given (YtpngdfmifabmdaaGreatDoorTie.lean); close each card by the builder's one call (the guide's Derived/Test/ToyasCard.lean, 'card_holds'). Laid BY PROGRAM, IN A SANDBOX (cutbox-door.mjs). By AI agents, Wed Nov 11 2026. No macro, syntax, notation, axiom, sorry.
-/
import Derived.Test.YtpngdfmifabmdaaGreatDoorRows
import GoSem.ClaimSeven
namespace Go.Proofs.YtpngdfmifabmdaaGreatDoor
namespace Rows

/-- THE TIED CARD OF 'keyholelaw16.VolumeRoot'. -/
def volumeRootCard : Claim7 := { stood := { row := volumeRootRow, standIns := [], harness := (true, "15311bc5e841173acf043b19485753471561fb2d63a3da192347fc9c49b9fa8c"), looks := false }, kinds := [], alts := [], laidByText := true, laidKinds := [.data, .data, .data, .data, .data], laidTests := true, laidLooks := .later }
def VolumeRootCardSaid : Prop := Claim7.holds Tryz.pinned (.plain (OpenSpec.ofChange volumeRootSpec)) volumeRootCard

/-- THE SECOND FORM's CARD OF 'keyholelaw16.VolumeRoot'. -/
def volumeRootUptoCard : Claim7 := { stood := { row := volumeRootUptoRow, standIns := [], harness := (true, "15311bc5e841173acf043b19485753471561fb2d63a3da192347fc9c49b9fa8c"), looks := false }, kinds := [], alts := [], laidByText := true, laidKinds := [.data, .data, .data, .data, .data], laidTests := true, laidLooks := .later }
def VolumeRootUptoCardSaid : Prop := Claim7.holds Tryz.pinned (.plain (OpenSpec.upto volumeRootSpec)) volumeRootUptoCard
end Rows
end Go.Proofs.YtpngdfmifabmdaaGreatDoor
