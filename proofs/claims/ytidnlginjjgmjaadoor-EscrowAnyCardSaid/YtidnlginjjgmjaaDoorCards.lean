/-
  DERIVED. GIVEN WITH THE SEED: THE CARDS: each row of YtidnlginjjgmjaaDoorRows.lean that lists a variable, with what it lists TIED to the program's text (the seventh form; the later family's looks); each row that meets fmt, with fmt's text TOLD by the authors' own Lean function (tested against real Go, not proved from fmt's source: count such statements apart). THE CARD IS WHAT COUNTS. Prove the row's statement (the work); the ties are given (YtidnlginjjgmjaaDoorTie.lean); close each card by the builder's one call (the guide's Derived/Test/ToyasCard.lean, 'card_holds'). Laid BY PROGRAM, IN A SANDBOX (cutbox-door.mjs). By AI agents, Wed Nov 11 2026. No macro, syntax, notation, axiom, sorry.
-/
import Derived.Test.YtidnlginjjgmjaaDoorRows
import GoSem.ClaimSeven
namespace Go.Proofs.YtidnlginjjgmjaaDoor
namespace Rows

/-- THE TIED CARD OF 'keyholelaw24.EscrowAny'. -/
def escrowAnyCard : Claim7 := { stood := { row := escrowAnyRow, standIns := [], harness := (true, "594e1b61b4e5fe35c2ac28371d4d395e163bca9437a641217dacb72d5a816570"), looks := false }, kinds := [], alts := [], laidByText := true, laidKinds := [.data, .data, .pinned], laidTests := true, laidLooks := .later }
def EscrowAnyCardSaid : Prop := Claim7.holds Tryd.pinned (.plain (OpenSpec.ofChange escrowAnySpec)) escrowAnyCard

/-- THE TIED CARD OF 'keyholelaw24.EscrowReads'. -/
def escrowReadsCard : Claim7 := { stood := { row := escrowReadsRow, standIns := [], harness := (true, "594e1b61b4e5fe35c2ac28371d4d395e163bca9437a641217dacb72d5a816570"), looks := false }, kinds := [], alts := [], laidByText := true, laidKinds := [.data, .data, .pinned], laidTests := true, laidLooks := .later }
def EscrowReadsCardSaid : Prop := Claim7.holds Tryd.pinned (.plain (OpenSpec.ofChange escrowReadsSpec)) escrowReadsCard

/-- THE TIED CARD OF 'keyholelaw24.EscrowEach'. -/
def escrowEachCard : Claim7 := { stood := { row := escrowEachRow, standIns := [], harness := (true, "594e1b61b4e5fe35c2ac28371d4d395e163bca9437a641217dacb72d5a816570"), looks := false }, kinds := [], alts := [], laidByText := true, laidKinds := [.data, .data, .pinned], laidTests := true, laidLooks := .later }
def EscrowEachCardSaid : Prop := Claim7.holds Tryd.pinned (.plain (OpenSpec.ofChange escrowEachSpec)) escrowEachCard

/-- THE SECOND FORM's CARD OF 'keyholelaw24.EscrowAny'. -/
def escrowAnyUptoCard : Claim7 := { stood := { row := escrowAnyUptoRow, standIns := [], harness := (true, "594e1b61b4e5fe35c2ac28371d4d395e163bca9437a641217dacb72d5a816570"), looks := false }, kinds := [], alts := [], laidByText := true, laidKinds := [.data, .data, .pinned], laidTests := true, laidLooks := .later }
def EscrowAnyUptoCardSaid : Prop := Claim7.holds Tryd.pinned (.plain (OpenSpec.upto escrowAnySpec)) escrowAnyUptoCard

/-- THE SECOND FORM's CARD OF 'keyholelaw24.EscrowReads'. -/
def escrowReadsUptoCard : Claim7 := { stood := { row := escrowReadsUptoRow, standIns := [], harness := (true, "594e1b61b4e5fe35c2ac28371d4d395e163bca9437a641217dacb72d5a816570"), looks := false }, kinds := [], alts := [], laidByText := true, laidKinds := [.data, .data, .pinned], laidTests := true, laidLooks := .later }
def EscrowReadsUptoCardSaid : Prop := Claim7.holds Tryd.pinned (.plain (OpenSpec.upto escrowReadsSpec)) escrowReadsUptoCard

/-- THE SECOND FORM's CARD OF 'keyholelaw24.EscrowEach'. -/
def escrowEachUptoCard : Claim7 := { stood := { row := escrowEachUptoRow, standIns := [], harness := (true, "594e1b61b4e5fe35c2ac28371d4d395e163bca9437a641217dacb72d5a816570"), looks := false }, kinds := [], alts := [], laidByText := true, laidKinds := [.data, .data, .pinned], laidTests := true, laidLooks := .later }
def EscrowEachUptoCardSaid : Prop := Claim7.holds Tryd.pinned (.plain (OpenSpec.upto escrowEachSpec)) escrowEachUptoCard
end Rows
end Go.Proofs.YtidnlginjjgmjaaDoor
