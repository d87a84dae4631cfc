/-
  DERIVED. GIVEN WITH THE SEED: THE CARDS: each row of YtifcpklaenbclaaGreatDoorRows.lean that lists a variable, with what it lists TIED to the program's text (the seventh form; the later family's looks); each row that meets fmt, with fmt's text TOLD by the authors' own Lean function (tested against real Go, not proved from fmt's source: count such statements apart). THE CARD IS WHAT COUNTS. Prove the row's statement (the work); the ties are given (YtifcpklaenbclaaGreatDoorTie.lean); close each card by the builder's one call (the guide's Derived/Test/ToyasCard.lean, 'card_holds'). Laid BY PROGRAM, IN A SANDBOX (cutbox-door.mjs). By AI agents, Wed Nov 11 2026. No macro, syntax, notation, axiom, sorry.
-/
import Derived.Test.YtifcpklaenbclaaGreatDoorRows
import GoSem.ClaimSeven
namespace Go.Proofs.YtifcpklaenbclaaGreatDoor
namespace Rows

/-- THE TIED CARD OF 'keyholelaw22.OwnerFew'. -/
def ownerFewCard : Claim7 := { stood := { row := ownerFewRow, standIns := [], harness := (true, "309996756bf162dbdcc9f41f362c99374f857ce73e53bcace531bc3b6cccf659"), looks := false }, kinds := [], alts := [], laidByText := true, laidKinds := [.data, .data], laidTests := true, laidLooks := .later }
def OwnerFewCardSaid : Prop := Claim7.holds Tryz.pinned (.plain (OpenSpec.ofChange ownerFewSpec)) ownerFewCard

/-- THE TIED CARD OF 'keyholelaw22.OwnerOrder'. -/
def ownerOrderCard : Claim7 := { stood := { row := ownerOrderRow, standIns := [], harness := (true, "309996756bf162dbdcc9f41f362c99374f857ce73e53bcace531bc3b6cccf659"), looks := false }, kinds := [], alts := [], laidByText := true, laidKinds := [.data, .data], laidTests := true, laidLooks := .later }
def OwnerOrderCardSaid : Prop := Claim7.holds Tryz.pinned (.plain (OpenSpec.ofChange ownerOrderSpec)) ownerOrderCard

/-- THE TIED CARD OF 'keyholelaw22.OwnerOpens'. -/
def ownerOpensCard : Claim7 := { stood := { row := ownerOpensRow, standIns := [], harness := (true, "309996756bf162dbdcc9f41f362c99374f857ce73e53bcace531bc3b6cccf659"), looks := false }, kinds := [], alts := [], laidByText := true, laidKinds := [.data, .data], laidTests := true, laidLooks := .later }
def OwnerOpensCardSaid : Prop := Claim7.holds Tryz.pinned (.plain (OpenSpec.ofChange ownerOpensSpec)) ownerOpensCard

/-- THE SECOND FORM's CARD OF 'keyholelaw22.OwnerFew'. -/
def ownerFewUptoCard : Claim7 := { stood := { row := ownerFewUptoRow, standIns := [], harness := (true, "309996756bf162dbdcc9f41f362c99374f857ce73e53bcace531bc3b6cccf659"), looks := false }, kinds := [], alts := [], laidByText := true, laidKinds := [.data, .data], laidTests := true, laidLooks := .later }
def OwnerFewUptoCardSaid : Prop := Claim7.holds Tryz.pinned (.plain (OpenSpec.upto ownerFewSpec)) ownerFewUptoCard

/-- THE SECOND FORM's CARD OF 'keyholelaw22.OwnerOrder'. -/
def ownerOrderUptoCard : Claim7 := { stood := { row := ownerOrderUptoRow, standIns := [], harness := (true, "309996756bf162dbdcc9f41f362c99374f857ce73e53bcace531bc3b6cccf659"), looks := false }, kinds := [], alts := [], laidByText := true, laidKinds := [.data, .data], laidTests := true, laidLooks := .later }
def OwnerOrderUptoCardSaid : Prop := Claim7.holds Tryz.pinned (.plain (OpenSpec.upto ownerOrderSpec)) ownerOrderUptoCard

/-- THE SECOND FORM's CARD OF 'keyholelaw22.OwnerOpens'. -/
def ownerOpensUptoCard : Claim7 := { stood := { row := ownerOpensUptoRow, standIns := [], harness := (true, "309996756bf162dbdcc9f41f362c99374f857ce73e53bcace531bc3b6cccf659"), looks := false }, kinds := [], alts := [], laidByText := true, laidKinds := [.data, .data], laidTests := true, laidLooks := .later }
def OwnerOpensUptoCardSaid : Prop := Claim7.holds Tryz.pinned (.plain (OpenSpec.upto ownerOpensSpec)) ownerOpensUptoCard
end Rows
end Go.Proofs.YtifcpklaenbclaaGreatDoor
