/-
  DERIVED. GIVEN WITH THE SEED: THE CARDS: each row of YtniglledpjheaaaGreatDoorRows.lean that lists a variable, with what it lists TIED to the program's text (the seventh form; the later family's looks); each row that meets fmt, with fmt's text TOLD by the authors' own Lean function (tested against real Go, not proved from fmt's source: count such statements apart). THE CARD IS WHAT COUNTS. Prove the row's statement (the work); the ties are given (YtniglledpjheaaaGreatDoorTie.lean); close each card by the builder's one call (the guide's Derived/Test/ToyasCard.lean, 'card_holds'). Laid BY PROGRAM, IN A SANDBOX (cutbox-door.mjs). By AI agents, Wed Nov 11 2026. No macro, syntax, notation, axiom, sorry.
-/
import Derived.Test.YtniglledpjheaaaGreatDoorRows
import GoSem.ClaimSeven
namespace Go.Proofs.YtniglledpjheaaaGreatDoor
namespace Rows

/-- THE TIED CARD OF 'keyholelaw21.HolderRight'. -/
def holderRightCard : Claim7 := { stood := { row := holderRightRow, standIns := [], harness := (true, "e5f4aa0d7f18a15510b59bc2c48553a4bc277de1a57019f0cf507d305c213152"), looks := false }, kinds := [], alts := [], laidByText := true, laidKinds := [.data], laidTests := true, laidLooks := .later }
def HolderRightCardSaid : Prop := Claim7.holds Tryz.pinned (.plain (OpenSpec.ofChange holderRightSpec)) holderRightCard

/-- THE TIED CARD OF 'keyholelaw21.HolderErases'. -/
def holderErasesCard : Claim7 := { stood := { row := holderErasesRow, standIns := [], harness := (true, "e5f4aa0d7f18a15510b59bc2c48553a4bc277de1a57019f0cf507d305c213152"), looks := false }, kinds := [], alts := [], laidByText := true, laidKinds := [.data], laidTests := true, laidLooks := .later }
def HolderErasesCardSaid : Prop := Claim7.holds Tryz.pinned (.plain (OpenSpec.ofChange holderErasesSpec)) holderErasesCard

/-- THE SECOND FORM's CARD OF 'keyholelaw21.HolderRight'. -/
def holderRightUptoCard : Claim7 := { stood := { row := holderRightUptoRow, standIns := [], harness := (true, "e5f4aa0d7f18a15510b59bc2c48553a4bc277de1a57019f0cf507d305c213152"), looks := false }, kinds := [], alts := [], laidByText := true, laidKinds := [.data], laidTests := true, laidLooks := .later }
def HolderRightUptoCardSaid : Prop := Claim7.holds Tryz.pinned (.plain (OpenSpec.upto holderRightSpec)) holderRightUptoCard

/-- THE SECOND FORM's CARD OF 'keyholelaw21.HolderErases'. -/
def holderErasesUptoCard : Claim7 := { stood := { row := holderErasesUptoRow, standIns := [], harness := (true, "e5f4aa0d7f18a15510b59bc2c48553a4bc277de1a57019f0cf507d305c213152"), looks := false }, kinds := [], alts := [], laidByText := true, laidKinds := [.data], laidTests := true, laidLooks := .later }
def HolderErasesUptoCardSaid : Prop := Claim7.holds Tryz.pinned (.plain (OpenSpec.upto holderErasesSpec)) holderErasesUptoCard
end Rows
end Go.Proofs.YtniglledpjheaaaGreatDoor
