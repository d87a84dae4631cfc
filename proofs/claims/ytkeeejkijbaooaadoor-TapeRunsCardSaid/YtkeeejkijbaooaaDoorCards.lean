/-
  DERIVED. GIVEN WITH THE SEED: THE CARDS: each row of YtkeeejkijbaooaaDoorRows.lean that lists a variable, with what it lists TIED to the program's text (the seventh form; the later family's looks); each row that meets fmt, with fmt's text TOLD by the authors' own Lean function (tested against real Go, not proved from fmt's source: count such statements apart). THE CARD IS WHAT COUNTS. Prove the row's statement (the work); the ties are given (YtkeeejkijbaooaaDoorTie.lean); close each card by the builder's one call (the guide's Derived/Test/ToyasCard.lean, 'card_holds'). Laid BY PROGRAM, IN A SANDBOX (cutbox-door.mjs). By AI agents, Wed Nov 11 2026. No macro, syntax, notation, axiom, sorry.
-/
import Derived.Test.YtkeeejkijbaooaaDoorRows
import GoSem.ClaimSeven
namespace Go.Proofs.YtkeeejkijbaooaaDoor
namespace Rows

/-- THE TIED CARD OF 'keyholelaw12.TapeBlocks'. -/
def tapeBlocksCard : Claim7 := { stood := { row := tapeBlocksRow, standIns := [], harness := (true, "bbef34364cc4c2a63e655c23f137f9143d7da43d813d152a60ceb92c845a0250"), looks := false }, kinds := [], alts := [], laidByText := true, laidKinds := [.data, .data], laidTests := true, laidLooks := .later }
def TapeBlocksCardSaid : Prop := Claim7.holds Tryd.pinned (.plain (OpenSpec.ofChange tapeBlocksSpec)) tapeBlocksCard

/-- THE TIED CARD OF 'keyholelaw12.TapeRuns'. -/
def tapeRunsCard : Claim7 := { stood := { row := tapeRunsRow, standIns := [], harness := (true, "bbef34364cc4c2a63e655c23f137f9143d7da43d813d152a60ceb92c845a0250"), looks := false }, kinds := [], alts := [], laidByText := true, laidKinds := [.data, .data], laidTests := true, laidLooks := .later }
def TapeRunsCardSaid : Prop := Claim7.holds Tryd.pinned (.plain (OpenSpec.ofChange tapeRunsSpec)) tapeRunsCard

/-- THE TIED CARD OF 'keyholelaw10.ArmourLetters'. -/
def armourLettersCard : Claim7 := { stood := { row := armourLettersRow, standIns := [], harness := (true, "bbef34364cc4c2a63e655c23f137f9143d7da43d813d152a60ceb92c845a0250"), looks := false }, kinds := [], alts := [], laidByText := true, laidKinds := [.data, .data, .pinned], laidTests := true, laidLooks := .later }
def ArmourLettersCardSaid : Prop := Claim7.holds Tryd.pinned (.plain (OpenSpec.ofChange armourLettersSpec)) armourLettersCard

/-- THE TIED CARD OF 'keyholelaw10.ArmourUnlike'. -/
def armourUnlikeCard : Claim7 := { stood := { row := armourUnlikeRow, standIns := [], harness := (true, "bbef34364cc4c2a63e655c23f137f9143d7da43d813d152a60ceb92c845a0250"), looks := false }, kinds := [], alts := [], laidByText := true, laidKinds := [.data, .data, .pinned], laidTests := true, laidLooks := .later }
def ArmourUnlikeCardSaid : Prop := Claim7.holds Tryd.pinned (.plain (OpenSpec.ofChange armourUnlikeSpec)) armourUnlikeCard

/-- THE TIED CARD OF 'keyholelaw10.ArmourBack'. -/
def armourBackCard : Claim7 := { stood := { row := armourBackRow, standIns := [], harness := (true, "bbef34364cc4c2a63e655c23f137f9143d7da43d813d152a60ceb92c845a0250"), looks := false }, kinds := [], alts := [], laidByText := true, laidKinds := [.data, .data, .pinned], laidTests := true, laidLooks := .later }
def ArmourBackCardSaid : Prop := Claim7.holds Tryd.pinned (.plain (OpenSpec.ofChange armourBackSpec)) armourBackCard

/-- THE SECOND FORM's CARD OF 'keyholelaw12.TapeBlocks'. -/
def tapeBlocksUptoCard : Claim7 := { stood := { row := tapeBlocksUptoRow, standIns := [], harness := (true, "bbef34364cc4c2a63e655c23f137f9143d7da43d813d152a60ceb92c845a0250"), looks := false }, kinds := [], alts := [], laidByText := true, laidKinds := [.data, .data], laidTests := true, laidLooks := .later }
def TapeBlocksUptoCardSaid : Prop := Claim7.holds Tryd.pinned (.plain (OpenSpec.upto tapeBlocksSpec)) tapeBlocksUptoCard

/-- THE SECOND FORM's CARD OF 'keyholelaw12.TapeRuns'. -/
def tapeRunsUptoCard : Claim7 := { stood := { row := tapeRunsUptoRow, standIns := [], harness := (true, "bbef34364cc4c2a63e655c23f137f9143d7da43d813d152a60ceb92c845a0250"), looks := false }, kinds := [], alts := [], laidByText := true, laidKinds := [.data, .data], laidTests := true, laidLooks := .later }
def TapeRunsUptoCardSaid : Prop := Claim7.holds Tryd.pinned (.plain (OpenSpec.upto tapeRunsSpec)) tapeRunsUptoCard

/-- THE SECOND FORM's CARD OF 'keyholelaw10.ArmourLetters'. -/
def armourLettersUptoCard : Claim7 := { stood := { row := armourLettersUptoRow, standIns := [], harness := (true, "bbef34364cc4c2a63e655c23f137f9143d7da43d813d152a60ceb92c845a0250"), looks := false }, kinds := [], alts := [], laidByText := true, laidKinds := [.data, .data, .pinned], laidTests := true, laidLooks := .later }
def ArmourLettersUptoCardSaid : Prop := Claim7.holds Tryd.pinned (.plain (OpenSpec.upto armourLettersSpec)) armourLettersUptoCard

/-- THE SECOND FORM's CARD OF 'keyholelaw10.ArmourUnlike'. -/
def armourUnlikeUptoCard : Claim7 := { stood := { row := armourUnlikeUptoRow, standIns := [], harness := (true, "bbef34364cc4c2a63e655c23f137f9143d7da43d813d152a60ceb92c845a0250"), looks := false }, kinds := [], alts := [], laidByText := true, laidKinds := [.data, .data, .pinned], laidTests := true, laidLooks := .later }
def ArmourUnlikeUptoCardSaid : Prop := Claim7.holds Tryd.pinned (.plain (OpenSpec.upto armourUnlikeSpec)) armourUnlikeUptoCard

/-- THE SECOND FORM's CARD OF 'keyholelaw10.ArmourBack'. -/
def armourBackUptoCard : Claim7 := { stood := { row := armourBackUptoRow, standIns := [], harness := (true, "bbef34364cc4c2a63e655c23f137f9143d7da43d813d152a60ceb92c845a0250"), looks := false }, kinds := [], alts := [], laidByText := true, laidKinds := [.data, .data, .pinned], laidTests := true, laidLooks := .later }
def ArmourBackUptoCardSaid : Prop := Claim7.holds Tryd.pinned (.plain (OpenSpec.upto armourBackSpec)) armourBackUptoCard
end Rows
end Go.Proofs.YtkeeejkijbaooaaDoor
