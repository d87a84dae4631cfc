/-
  DERIVED. GIVEN WITH THE SEED: THE CARDS: each row of YtkbjmmigjjdfpaaGreatDoorRows.lean that lists a variable, with what it lists TIED to the program's text (the seventh form; the later family's looks); each row that meets fmt, with fmt's text TOLD by the authors' own Lean function (tested against real Go, not proved from fmt's source: count such statements apart). THE CARD IS WHAT COUNTS. Prove the row's statement (the work); the ties are given (YtkbjmmigjjdfpaaGreatDoorTie.lean); close each card by the builder's one call (the guide's Derived/Test/ToyasCard.lean, 'card_holds'). Laid BY PROGRAM, IN A SANDBOX (cutbox-door.mjs). By AI agents, Wed Nov 11 2026. No macro, syntax, notation, axiom, sorry.
-/
import Derived.Test.YtkbjmmigjjdfpaaGreatDoorRows
import GoSem.ClaimSeven
namespace Go.Proofs.YtkbjmmigjjdfpaaGreatDoor
namespace Rows

/-- THE TIED CARD OF 'keyholetop.TopOld'. -/
def topOldCard : Claim7 := { stood := { row := topOldRow, standIns := [], harness := (true, "b6d2fe4b11b2e7beee2facdaf9b78806d5a5959b2900bef056decc807cdd1806"), looks := false }, kinds := [], alts := [], laidByText := true, laidKinds := [.data, .data], laidTests := true, laidLooks := .later }
def TopOldCardSaid : Prop := Claim7.holds Tryz.pinned (.plain (OpenSpec.ofChange topOldSpec)) topOldCard

/-- THE TIED CARD OF 'keyholetop.TopUnlock'. -/
def topUnlockCard : Claim7 := { stood := { row := topUnlockRow, standIns := [], harness := (true, "b6d2fe4b11b2e7beee2facdaf9b78806d5a5959b2900bef056decc807cdd1806"), looks := false }, kinds := [], alts := [], laidByText := true, laidKinds := [.data, .data], laidTests := true, laidLooks := .later }
def TopUnlockCardSaid : Prop := Claim7.holds Tryz.pinned (.plain (OpenSpec.ofChange topUnlockSpec)) topUnlockCard

/-- THE SECOND FORM's CARD OF 'keyholetop.TopOld'. -/
def topOldUptoCard : Claim7 := { stood := { row := topOldUptoRow, standIns := [], harness := (true, "b6d2fe4b11b2e7beee2facdaf9b78806d5a5959b2900bef056decc807cdd1806"), looks := false }, kinds := [], alts := [], laidByText := true, laidKinds := [.data, .data], laidTests := true, laidLooks := .later }
def TopOldUptoCardSaid : Prop := Claim7.holds Tryz.pinned (.plain (OpenSpec.upto topOldSpec)) topOldUptoCard

/-- THE SECOND FORM's CARD OF 'keyholetop.TopUnlock'. -/
def topUnlockUptoCard : Claim7 := { stood := { row := topUnlockUptoRow, standIns := [], harness := (true, "b6d2fe4b11b2e7beee2facdaf9b78806d5a5959b2900bef056decc807cdd1806"), looks := false }, kinds := [], alts := [], laidByText := true, laidKinds := [.data, .data], laidTests := true, laidLooks := .later }
def TopUnlockUptoCardSaid : Prop := Claim7.holds Tryz.pinned (.plain (OpenSpec.upto topUnlockSpec)) topUnlockUptoCard
end Rows
end Go.Proofs.YtkbjmmigjjdfpaaGreatDoor
