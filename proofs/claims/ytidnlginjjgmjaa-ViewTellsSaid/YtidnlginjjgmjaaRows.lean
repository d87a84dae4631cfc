/-
  No cell of these rows narrows 'for every input' (looked for: loops, veiled, ifaces, maps, wideKeys, modest, calm, conditions, laid).
  DERIVED. THE GIVEN ROWS OF THIS SEAT. 3 by the template 'for every input the law returns true; each argument reads behind the call as it read before'; 0 by the template 'total and deterministic' (their statements: YtidnlginjjgmjaaTotals.lean).
  GIVEN WITH THE SEED: the statements are not yours to turn. If you find one false, say at which input.
  Laid BY PROGRAM, IN A SANDBOX (cutbox-rows.mjs): the forced cells as the released guide's own fill.sh prints them over the translation 9d44567cb3a45178… (all of the seat's roots in one cut). By AI agents, Wed Nov 11 2026. No macro, syntax, notation, axiom, sorry.
-/
import Derived.Test.YtidnlginjjgmjaaChecked
import GoSem.Claim
import GoSem.ClaimJoined
import GoSem.ClaimMapViews
import Derived.JoinedTies
import Derived.KernelRfl
namespace Go.Proofs.Ytidnlginjjgmjaa
/- THE CELL 'sum', in the pinned program and in every row, IS THE sha256 OF THE DUMP (.gsa) THAT YtidnlginjjgmjaaProg.lean LOADS. Nothing in Lean hashes anything: it is a label: what it is worth is what the hold of that sum in a sandbox is worth. -/
noncomputable def Try.pinned : Pinned := { name := "ytidnlginjjgmjaa", sum := "9d44567cb3a45178a3cc3707403aa353ee5a37017e508adf5ee79b1f337053df", checked := Try.checked }
namespace Rows
def none {H : Type} : Left H := { results := [], args := [] }

/-- 'keyholelaw27.ViewShares': WHATEVER THE INPUT: true; the input reads as it did. -/
def viewSharesSpec : ChangeSpec := { name := "viewShares", fn := fun _ => fun
  | [d1, d2, d3, d4, d5, d6] => { results := [.lit (.bool true)], args := [d1, d2, d3, d4, d5, d6] }
  | _ => none }
def viewSharesRow : OpenClaim := { program := "ytidnlginjjgmjaa", sum := "9d44567cb3a45178a3cc3707403aa353ee5a37017e508adf5ee79b1f337053df", func := "keyhole/keyholelaw27.ViewShares", spec := "viewShares", inPlace := ["internal/abi.NoEscape", "internal/bytealg.MakeNoZero"], unfollowed := true, recurses := true, apart := false }
def ViewSharesSaid : Prop := viewSharesRow.holds Try.pinned (OpenSpec.ofChange viewSharesSpec)

/-- ITS FALSE NEIGHBOUR: 'it returns false'. Refute it at one input. -/
def viewSharesWrong : ChangeSpec := { name := "viewShares", fn := fun _ => fun
  | [d1, d2, d3, d4, d5, d6] => { results := [.lit (.bool false)], args := [d1, d2, d3, d4, d5, d6] }
  | _ => none }
def ViewSharesWrongFalsely : Prop := viewSharesRow.holds Try.pinned (OpenSpec.ofChange viewSharesWrong)

/-- 'keyholelaw27.ViewTwice': WHATEVER THE INPUT: true; the input reads as it did. -/
def viewTwiceSpec : ChangeSpec := { name := "viewTwice", fn := fun _ => fun
  | [d] => { results := [.lit (.bool true)], args := [d] }
  | _ => none }
def viewTwiceRow : OpenClaim := { program := "ytidnlginjjgmjaa", sum := "9d44567cb3a45178a3cc3707403aa353ee5a37017e508adf5ee79b1f337053df", func := "keyhole/keyholelaw27.ViewTwice", spec := "viewTwice", inPlace := ["internal/abi.NoEscape", "internal/bytealg.MakeNoZero"], unfollowed := true, recurses := true, apart := false }
def ViewTwiceSaid : Prop := viewTwiceRow.holds Try.pinned (OpenSpec.ofChange viewTwiceSpec)

/-- ITS FALSE NEIGHBOUR: 'it returns false'. Refute it at one input. -/
def viewTwiceWrong : ChangeSpec := { name := "viewTwice", fn := fun _ => fun
  | [d] => { results := [.lit (.bool false)], args := [d] }
  | _ => none }
def ViewTwiceWrongFalsely : Prop := viewTwiceRow.holds Try.pinned (OpenSpec.ofChange viewTwiceWrong)

/-- 'keyholelaw27.ViewTells': WHATEVER THE INPUT: true; the input reads as it did. -/
def viewTellsSpec : ChangeSpec := { name := "viewTells", fn := fun _ => fun
  | [d1, d2, d3, d4, d5, d6, d7, d8, d9] => { results := [.lit (.bool true)], args := [d1, d2, d3, d4, d5, d6, d7, d8, d9] }
  | _ => none }
def viewTellsRow : OpenClaim := { program := "ytidnlginjjgmjaa", sum := "9d44567cb3a45178a3cc3707403aa353ee5a37017e508adf5ee79b1f337053df", func := "keyhole/keyholelaw27.ViewTells", spec := "viewTells", inPlace := ["internal/abi.NoEscape", "internal/bytealg.MakeNoZero"], unfollowed := true, recurses := true, apart := false }
def ViewTellsSaid : Prop := viewTellsRow.holds Try.pinned (OpenSpec.ofChange viewTellsSpec)

/-- ITS FALSE NEIGHBOUR: 'it returns false'. Refute it at one input. -/
def viewTellsWrong : ChangeSpec := { name := "viewTells", fn := fun _ => fun
  | [d1, d2, d3, d4, d5, d6, d7, d8, d9] => { results := [.lit (.bool false)], args := [d1, d2, d3, d4, d5, d6, d7, d8, d9] }
  | _ => none }
def ViewTellsWrongFalsely : Prop := viewTellsRow.holds Try.pinned (OpenSpec.ofChange viewTellsWrong)

/- THE SECOND FORM. 'bulk': how many values and letters a reading holds, each counted each time it is reached (what is shared counts as often as it is met; a slice's spare places count too). A statement '..UptoSaid' is the law's where the arguments, and the package variables that the reading takes, are together of bulk at most 1048576: NARROWER than '..Said'. Prove '..Said' where nothing that the law and all that it calls make is longer than what came in: it says more and counts as full. Else prove '..UptoSaid'. A law counts once. -/
mutual
def uptoBulk {H : Type} : DataW H → Nat
  | .lit (.string bytes) => bytes.length + 1
  | .lit _ => 1
  | .nil => 1
  | .ptr d => uptoBulk d + 1
  | .slice elems spare => uptoBulkAll elems + uptoBulkAll spare + 1
  | .agg parts => uptoBulkAll parts + 1
  | .iface _ d => uptoBulk d + 1
  | .map entries => uptoBulkEntries entries + 1
  | .held _ => 1
def uptoBulkAll {H : Type} : List (DataW H) → Nat
  | [] => 0
  | d :: r => uptoBulk d + uptoBulkAll r
def uptoBulkEntries {H : Type} : List (Lit × DataW H) → Nat
  | [] => 0
  | x :: r => uptoBulkEntry x + uptoBulkEntries r
def uptoBulkEntry {H : Type} : Lit × DataW H → Nat
  | (.string bytes, d) => bytes.length + uptoBulk d + 1
  | (_, d) => uptoBulk d + 1
 end
def uptoSmall : (H : Type) → List (DataW H) → Bool := fun _ ds => decide (uptoBulkAll ds ≤ 1048576)
def OpenSpec.upto (s : _root_.Go.ChangeSpec) : _root_.Go.OpenSpec := { _root_.Go.OpenSpec.ofChange s with cond := some uptoSmall }

/-- 'keyholelaw27.ViewShares', WHERE WHAT IT READS IS OF BULK AT MOST 1048576: true; the input reads as it did. -/
def viewSharesUptoRow : OpenClaim := { program := "ytidnlginjjgmjaa", sum := "9d44567cb3a45178a3cc3707403aa353ee5a37017e508adf5ee79b1f337053df", func := "keyhole/keyholelaw27.ViewShares", spec := "viewShares", inPlace := ["internal/abi.NoEscape", "internal/bytealg.MakeNoZero"], unfollowed := true, recurses := true, apart := false, narrowed := true }
def ViewSharesUptoSaid : Prop := viewSharesUptoRow.holds Try.pinned (OpenSpec.upto viewSharesSpec)

/-- 'keyholelaw27.ViewTwice', WHERE WHAT IT READS IS OF BULK AT MOST 1048576: true; the input reads as it did. -/
def viewTwiceUptoRow : OpenClaim := { program := "ytidnlginjjgmjaa", sum := "9d44567cb3a45178a3cc3707403aa353ee5a37017e508adf5ee79b1f337053df", func := "keyhole/keyholelaw27.ViewTwice", spec := "viewTwice", inPlace := ["internal/abi.NoEscape", "internal/bytealg.MakeNoZero"], unfollowed := true, recurses := true, apart := false, narrowed := true }
def ViewTwiceUptoSaid : Prop := viewTwiceUptoRow.holds Try.pinned (OpenSpec.upto viewTwiceSpec)

/-- 'keyholelaw27.ViewTells', WHERE WHAT IT READS IS OF BULK AT MOST 1048576: true; the input reads as it did. -/
def viewTellsUptoRow : OpenClaim := { program := "ytidnlginjjgmjaa", sum := "9d44567cb3a45178a3cc3707403aa353ee5a37017e508adf5ee79b1f337053df", func := "keyhole/keyholelaw27.ViewTells", spec := "viewTells", inPlace := ["internal/abi.NoEscape", "internal/bytealg.MakeNoZero"], unfollowed := true, recurses := true, apart := false, narrowed := true }
def ViewTellsUptoSaid : Prop := viewTellsUptoRow.holds Try.pinned (OpenSpec.upto viewTellsSpec)

end Rows
end Go.Proofs.Ytidnlginjjgmjaa
