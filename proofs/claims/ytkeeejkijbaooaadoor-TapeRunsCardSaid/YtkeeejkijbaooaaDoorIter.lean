/-
  Ranges over functions: what the iterators of this program keep.
-/
import Derived.RangeFuncNested
import Derived.RangeFuncBound
import Derived.RangeFuncCalls
import Derived.RangeFuncLeaves
import Derived.RangeFuncFrom
import Derived.Shelf.Abstract
import Derived.Shelf.RegionOpen
import Derived.WalkKit
import Derived.OwnWalkIn
import Derived.TacticsInMore
import Derived.LoopNIn
import Derived.LoopIn
import Derived.Test.YtkeeejkijbaooaaDoorOwn
namespace Go.Proofs.YtkeeejkijbaooaaDoor
open Go.RowKit Go.Shelf
set_option linter.unusedVariables false

/-- The blocks b of memory are as they were. -/
def KeepB (bs : List Nat) (W W' : World) : Prop := ∀ b ∈ bs, W'.heap[b]? = W.heap[b]?
theorem keepB_t {bs : List Nat} {A B C : World} (h : KeepB bs A B) (k : KeepB bs B C) : KeepB bs A C := fun b hb => (k b hb).trans (h b hb)
theorem keepB_b {bs : List Nat} {w : World} (hn : ∀ b ∈ bs, b < w.heap.size) (W : World) (l : Nat) (o o' : Obj) (hl : w.heap.size ≤ l) (_ : W.heap[l]? = some o) (_ : o.isCells = false) (_ : o.isWalk = false) : KeepB bs W (W.putObj l o') := fun b hb => by
  have hne : l ≠ b := by have := hn b hb; omega
  simp [World.putObj, hne]
theorem keepB_below {bs : List Nat} {W W' : World} (hn : ∀ b ∈ bs, b < W.heap.size) (h : Below W.heap.size W W') : KeepB bs W W' := fun b hb => h.block b (hn b hb)
theorem keepB_gb {bs : List Nat} {W W' : World} {g : Nat} (hn : ∀ b ∈ bs, b < W.heap.size) (hg : ∀ b ∈ bs, b ≠ g) (h : W.grownBy W' (some g)) : KeepB bs W W' := fun b hb => h.block b (hn b hb) (fun e => hg b hb (Option.some.inj e))
theorem gb_of_below {W W' : World} (h : Below W.heap.size W W') (r : Option Nat) : W.grownBy W' r := ⟨h.os, h.tape, h.output, h.size, fun i hi _ => h.block i hi⟩
theorem gb_trans {A B C : World} {g : Nat} (h : A.grownBy B (some g)) (k : B.grownBy C (some g)) : A.grownBy C (some g) :=
  ⟨k.os.trans h.os, k.tape.trans h.tape, k.output.trans h.output, Nat.le_trans h.size k.size, fun i hi hne => (k.block i (Nat.lt_of_lt_of_le hi h.size) hne).trans (h.block i hi hne)⟩
end Go.Proofs.YtkeeejkijbaooaaDoor
