/-
  DERIVED. GIVEN WITH THE SEED: THE CARDS: each row of YtkldllnlakaehaaGreatDoorRows.lean that lists a variable, with what it lists TIED to the program's text (the seventh form; the later family's looks); each row that meets fmt, with fmt's text TOLD by the authors' own Lean function (tested against real Go, not proved from fmt's source: count such statements apart). THE CARD IS WHAT COUNTS. Prove the row's statement (the work); the ties are given (YtkldllnlakaehaaGreatDoorTie.lean); close each card by the builder's one call (the guide's Derived/Test/ToyasCard.lean, 'card_holds'). Laid BY PROGRAM, IN A SANDBOX (cutbox-door.mjs). By AI agents, Wed Nov 11 2026. No macro, syntax, notation, axiom, sorry.
-/
import Derived.Test.YtkldllnlakaehaaGreatDoorRows
import GoSem.ClaimSeven
namespace Go.Proofs.YtkldllnlakaehaaGreatDoor
namespace Rows

/-- THE TIED CARD OF 'keyholelaw27.ViewFrames'. -/
def viewFramesCard : Claim7 := { stood := { row := viewFramesRow, standIns := [], harness := (true, "854a4ca45157697ce9aaf63cdc71930cb62fbd0d9bade0f768e9d727d8532a40"), looks := false }, kinds := [], alts := [], laidByText := true, laidKinds := [.data, .data], laidTests := true, laidLooks := .later }
def ViewFramesCardSaid : Prop := Claim7.holds Tryz.pinned (.plain (OpenSpec.ofChange viewFramesSpec)) viewFramesCard

/-- THE TIED CARD OF 'keyholelaw27.ViewWrites'. -/
def viewWritesCard : Claim7 := { stood := { row := viewWritesRow, standIns := [], harness := (true, "854a4ca45157697ce9aaf63cdc71930cb62fbd0d9bade0f768e9d727d8532a40"), looks := false }, kinds := [], alts := [], laidByText := true, laidKinds := [.data, .data, .data, .data, .data], laidTests := true, laidLooks := .later }
def ViewWritesCardSaid : Prop := Claim7.holds Tryz.pinned (.plain (OpenSpec.ofChange viewWritesSpec)) viewWritesCard

/-- THE SECOND FORM's CARD OF 'keyholelaw27.ViewFrames'. -/
def viewFramesUptoCard : Claim7 := { stood := { row := viewFramesUptoRow, standIns := [], harness := (true, "854a4ca45157697ce9aaf63cdc71930cb62fbd0d9bade0f768e9d727d8532a40"), looks := false }, kinds := [], alts := [], laidByText := true, laidKinds := [.data, .data], laidTests := true, laidLooks := .later }
def ViewFramesUptoCardSaid : Prop := Claim7.holds Tryz.pinned (.plain (OpenSpec.upto viewFramesSpec)) viewFramesUptoCard

/-- THE SECOND FORM's CARD OF 'keyholelaw27.ViewWrites'. -/
def viewWritesUptoCard : Claim7 := { stood := { row := viewWritesUptoRow, standIns := [], harness := (true, "854a4ca45157697ce9aaf63cdc71930cb62fbd0d9bade0f768e9d727d8532a40"), looks := false }, kinds := [], alts := [], laidByText := true, laidKinds := [.data, .data, .data, .data, .data], laidTests := true, laidLooks := .later }
def ViewWritesUptoCardSaid : Prop := Claim7.holds Tryz.pinned (.plain (OpenSpec.upto viewWritesSpec)) viewWritesUptoCard
end Rows
end Go.Proofs.YtkldllnlakaehaaGreatDoor
