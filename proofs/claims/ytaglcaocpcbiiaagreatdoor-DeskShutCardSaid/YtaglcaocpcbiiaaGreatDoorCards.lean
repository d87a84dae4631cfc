/-
  DERIVED. GIVEN WITH THE SEED: THE CARDS: each row of YtaglcaocpcbiiaaGreatDoorRows.lean that lists a variable, with what it lists TIED to the program's text (the seventh form; the later family's looks); each row that meets fmt, with fmt's text TOLD by the authors' own Lean function (tested against real Go, not proved from fmt's source: count such statements apart). THE CARD IS WHAT COUNTS. Prove the row's statement (the work); the ties are given (YtaglcaocpcbiiaaGreatDoorTie.lean); close each card by the builder's one call (the guide's Derived/Test/ToyasCard.lean, 'card_holds'). Laid BY PROGRAM, IN A SANDBOX (cutbox-door.mjs). By AI agents, Wed Nov 11 2026. No macro, syntax, notation, axiom, sorry.
-/
import Derived.Test.YtaglcaocpcbiiaaGreatDoorRows
import GoSem.ClaimSeven
namespace Go.Proofs.YtaglcaocpcbiiaaGreatDoor
namespace Rows

/-- THE TIED CARD OF 'keyholelaw28.DeskGrows'. -/
def deskGrowsCard : Claim7 := { stood := { row := deskGrowsRow, standIns := [], harness := (true, "a52774c15163640277110371176e4218afc396568d0db862ba42e33a721dff0c"), looks := true }, kinds := [], alts := [], laidByText := true, laidKinds := [.data, .data, .data, .data, .data, .data, .pinned], laidTests := true, laidLooks := .later }
def DeskGrowsCardSaid : Prop := Claim7.holds Tryz.pinned (.plain (OpenSpec.ofChange deskGrowsSpec)) deskGrowsCard

/-- THE TIED CARD OF 'keyholelaw28.DeskAgain'. -/
def deskAgainCard : Claim7 := { stood := { row := deskAgainRow, standIns := [], harness := (true, "a52774c15163640277110371176e4218afc396568d0db862ba42e33a721dff0c"), looks := true }, kinds := [], alts := [], laidByText := true, laidKinds := [.data, .data, .data, .data, .data, .data, .pinned], laidTests := true, laidLooks := .later }
def DeskAgainCardSaid : Prop := Claim7.holds Tryz.pinned (.plain (OpenSpec.ofChange deskAgainSpec)) deskAgainCard

/-- THE TIED CARD OF 'keyholelaw28.DeskShut'. -/
def deskShutCard : Claim7 := { stood := { row := deskShutRow, standIns := [], harness := (true, "a52774c15163640277110371176e4218afc396568d0db862ba42e33a721dff0c"), looks := true }, kinds := [], alts := [], laidByText := true, laidKinds := [.data, .data, .data, .data, .data, .data, .pinned], laidTests := true, laidLooks := .later }
def DeskShutCardSaid : Prop := Claim7.holds Tryz.pinned (.plain (OpenSpec.ofChange deskShutSpec)) deskShutCard

/-- THE SECOND FORM's CARD OF 'keyholelaw28.DeskGrows'. -/
def deskGrowsUptoCard : Claim7 := { stood := { row := deskGrowsUptoRow, standIns := [], harness := (true, "a52774c15163640277110371176e4218afc396568d0db862ba42e33a721dff0c"), looks := true }, kinds := [], alts := [], laidByText := true, laidKinds := [.data, .data, .data, .data, .data, .data, .pinned], laidTests := true, laidLooks := .later }
def DeskGrowsUptoCardSaid : Prop := Claim7.holds Tryz.pinned (.plain (OpenSpec.upto deskGrowsSpec)) deskGrowsUptoCard

/-- THE SECOND FORM's CARD OF 'keyholelaw28.DeskAgain'. -/
def deskAgainUptoCard : Claim7 := { stood := { row := deskAgainUptoRow, standIns := [], harness := (true, "a52774c15163640277110371176e4218afc396568d0db862ba42e33a721dff0c"), looks := true }, kinds := [], alts := [], laidByText := true, laidKinds := [.data, .data, .data, .data, .data, .data, .pinned], laidTests := true, laidLooks := .later }
def DeskAgainUptoCardSaid : Prop := Claim7.holds Tryz.pinned (.plain (OpenSpec.upto deskAgainSpec)) deskAgainUptoCard

/-- THE SECOND FORM's CARD OF 'keyholelaw28.DeskShut'. -/
def deskShutUptoCard : Claim7 := { stood := { row := deskShutUptoRow, standIns := [], harness := (true, "a52774c15163640277110371176e4218afc396568d0db862ba42e33a721dff0c"), looks := true }, kinds := [], alts := [], laidByText := true, laidKinds := [.data, .data, .data, .data, .data, .data, .pinned], laidTests := true, laidLooks := .later }
def DeskShutUptoCardSaid : Prop := Claim7.holds Tryz.pinned (.plain (OpenSpec.upto deskShutSpec)) deskShutUptoCard
end Rows
end Go.Proofs.YtaglcaocpcbiiaaGreatDoor
