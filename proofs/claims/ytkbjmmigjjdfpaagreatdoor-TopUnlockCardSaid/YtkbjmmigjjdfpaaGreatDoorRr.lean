/-
  Contracts of the document's Name, Check, Big (records), Many (answers), Same (shares).
  Contracts of the document's Check (records), Same (shares).
-/
import Derived.Test.YtkbjmmigjjdfpaaGreatDoorMe
import Derived.Test.YtkbjmmigjjdfpaaGreatDoorOv
import Derived.Laws.StructEq
import Derived.BigQuiet
import Derived.Test.YtkbjmmigjjdfpaaGreatDoorRight
namespace Go.Proofs.YtkbjmmigjjdfpaaGreatDoor
/- Ro -/
open Go.RowKit
set_option linter.unusedVariables false
set_option linter.unusedSimpArgs false
set_option maxRecDepth 100000
set_option maxHeartbeats 2000000

/-- Big: what is not big. -/
def notBig (r : Rec) : Prop := r.ns.length ≤ 30 ∧ r.ps.length ≤ 30 ∧ (∀ s ∈ r.ns, s.size ≤ 100) ∧ (∀ s ∈ r.ps, s.size ≤ 100)
theorem all_upto {l : List ByteArray} {n : Nat} (hn : n = l.length) (h : ∀ j (hj : j < l.length), j < n → l[j].size ≤ 100) : ∀ s ∈ l, s.size ≤ 100 := fun s hs => by
  obtain ⟨j, hj, rfl⟩ := List.mem_iff_getElem.1 hs
  exact h j hj (by omega)
def BigR (w : World) (r : Rec) (e : Ending) (w' : World) : Prop := ∃ b, e = .returned (.bool b) ∧ (b = false → notBig r) ∧ Below w.heap.size w w'
/-- Many: what is not many. -/
def notMany (l : List Ans) : Prop := l.length ≤ 30
def ManyR (w : World) (l : List Ans) (e : Ending) (w' : World) : Prop := ∃ b, e = .returned (.bool b) ∧ (b = false → notMany l) ∧ Below w.heap.size w w'
/- Ro2 -/
open Go.RowKit
set_option linter.unusedVariables false
set_option linter.unusedSimpArgs false
set_option maxRecDepth 100000
set_option maxHeartbeats 2000000

/-- Same, of shares. -/
theorem shr_of_take {l m : List Shr} (hl : l.length = m.length) (h : l.take l.length = m.take l.length) : l = m := by
  rw [List.take_of_length_le (Nat.le_refl _), hl, List.take_of_length_le (Nat.le_refl _)] at h
  exact h
end Go.Proofs.YtkbjmmigjjdfpaaGreatDoor
