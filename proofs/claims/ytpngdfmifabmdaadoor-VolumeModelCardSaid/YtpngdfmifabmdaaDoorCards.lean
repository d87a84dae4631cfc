/-
  DERIVED. GIVEN WITH THE SEED: THE CARDS: each row of YtpngdfmifabmdaaDoorRows.lean that lists a variable, with what it lists TIED to the program's text (the seventh form; the later family's looks); each row that meets fmt, with fmt's text TOLD by the authors' own Lean function (tested against real Go, not proved from fmt's source: count such statements apart). THE CARD IS WHAT COUNTS. Prove the row's statement (the work); the ties are given (YtpngdfmifabmdaaDoorTie.lean); close each card by the builder's one call (the guide's Derived/Test/ToyasCard.lean, 'card_holds'). Laid BY PROGRAM, IN A SANDBOX (cutbox-door.mjs). By AI agents, Wed Nov 11 2026. No macro, syntax, notation, axiom, sorry.
-/
import Derived.Test.YtpngdfmifabmdaaDoorRows
import GoSem.ClaimSeven
namespace Go.Proofs.YtpngdfmifabmdaaDoor
namespace Rows

/-- THE TIED CARD OF 'keyholelaw16.VolumeOthers'. -/
def volumeOthersCard : Claim7 := { stood := { row := volumeOthersRow, standIns := [], harness := (true, "3fec34e159d65ee5f2111b85e12d5990c8f9054903d5490de1a83e3de48d1348"), looks := false }, kinds := [], alts := [], laidByText := true, laidKinds := [.data, .data, .data, .data, .data], laidTests := true, laidLooks := .later }
def VolumeOthersCardSaid : Prop := Claim7.holds Tryd.pinned (.plain (OpenSpec.ofChange volumeOthersSpec)) volumeOthersCard

/-- THE TIED CARD OF 'keyholelaw16.VolumeModel'. -/
def volumeModelCard : Claim7 := { stood := { row := volumeModelRow, standIns := [], harness := (true, "3fec34e159d65ee5f2111b85e12d5990c8f9054903d5490de1a83e3de48d1348"), looks := false }, kinds := [], alts := [], laidByText := true, laidKinds := [.data, .data, .data, .data, .data], laidTests := true, laidLooks := .later }
def VolumeModelCardSaid : Prop := Claim7.holds Tryd.pinned (.plain (OpenSpec.ofChange volumeModelSpec)) volumeModelCard

/-- THE SECOND FORM's CARD OF 'keyholelaw16.VolumeOthers'. -/
def volumeOthersUptoCard : Claim7 := { stood := { row := volumeOthersUptoRow, standIns := [], harness := (true, "3fec34e159d65ee5f2111b85e12d5990c8f9054903d5490de1a83e3de48d1348"), looks := false }, kinds := [], alts := [], laidByText := true, laidKinds := [.data, .data, .data, .data, .data], laidTests := true, laidLooks := .later }
def VolumeOthersUptoCardSaid : Prop := Claim7.holds Tryd.pinned (.plain (OpenSpec.upto volumeOthersSpec)) volumeOthersUptoCard

/-- THE SECOND FORM's CARD OF 'keyholelaw16.VolumeModel'. -/
def volumeModelUptoCard : Claim7 := { stood := { row := volumeModelUptoRow, standIns := [], harness := (true, "3fec34e159d65ee5f2111b85e12d5990c8f9054903d5490de1a83e3de48d1348"), looks := false }, kinds := [], alts := [], laidByText := true, laidKinds := [.data, .data, .data, .data, .data], laidTests := true, laidLooks := .later }
def VolumeModelUptoCardSaid : Prop := Claim7.holds Tryd.pinned (.plain (OpenSpec.upto volumeModelSpec)) volumeModelUptoCard
end Rows
end Go.Proofs.YtpngdfmifabmdaaDoor
