/-
  Small facts for ranges over functions.
-/
import Derived.Test.YtieekajjoikepaaGreatDoorSm
import Derived.Test.YtieekajjoikepaaGreatDoorGen
import Derived.StillTailTactics
namespace Go.Proofs.YtieekajjoikepaaGreatDoor
open Go.RowKit
set_option linter.unusedVariables false
set_option linter.unusedSimpArgs false

/-- What lies below n0 stays, and the boxes bs. -/
def KpT (n0 : Nat) (bs : List Nat) (W W' : World) : Prop := Below n0 W W' ∧ KeepB bs W W'
theorem kpT_t {n0 : Nat} {bs : List Nat} {A B C : World} (h : KpT n0 bs A B) (k : KpT n0 bs B C) : KpT n0 bs A C := ⟨h.1.trans k.1, keepB_t h.2 k.2⟩
theorem kpT_b {n0 : Nat} {bs : List Nat} {w : World} (hn : n0 ≤ w.heap.size) (hb : ∀ b ∈ bs, b < w.heap.size) (W : World) (l : Nat) (o o' : Obj) (hl : w.heap.size ≤ l) (h1 : W.heap[l]? = some o) (h2 : o.isCells = false) (h3 : o.isWalk = false) : KpT n0 bs W (W.putObj l o') :=
  ⟨belowK_b hn W l o o' hl h1 h2 h3, keepB_b hb W l o o' hl h1 h2 h3⟩
theorem rf_cells {β : Type} (b : Nat) (C : Array Value) (t : TypeId) : Own (fun (_ : β) W => W.heap[b]? = some (.cells C t (0, 0))) := fun s A B row hs hg hr => by
  refine (hg.block b (cell_lt_of hs) (fun e => ?_)).trans hs
  obtain ⟨o, ho, hc⟩ := hr b e.symm
  rw [hs] at ho
  obtain rfl := Option.some.inj ho
  cases hc
theorem rf_c {b : Nat} {C : Array Value} {t : TypeId} {X Y : World} {row : Option Nat} (h : X.heap[b]? = some (.cells C t (0, 0))) (hg : X.grownBy Y row) (hr : ∀ r, row = some r → ∃ o : Obj, X.heap[r]? = some o ∧ o.isCells = false) : Y.heap[b]? = some (.cells C t (0, 0)) := rf_cells (β := Unit) b C t () X Y row h hg hr
theorem rf_at {w : World} {g : Nat} {t : TypeId} {cs : Array Value} (h : w.heap[g]? = some (.cells cs t (0, 0))) (i : Nat) (u : Value) (hu : cs[i]? = some u) : w.cell? ⟨g, i, none⟩ = some u := by
  unfold World.cell?
  simp [h, hu]
theorem rf_fr {w : World} {g : Nat} {t : TypeId} {cs : Array Value} (h : w.heap[g]? = some (.cells cs t (0, 0))) (i : Nat) : w.frozen? ⟨g, i, none⟩ = false := by
  unfold World.frozen?
  simp [h]
theorem rf_set {w : World} {B0 : Nat} {b i : Nat} (h : B0 ≤ b) (u : Value) : Below B0 w (w.setCell ⟨b, i, none⟩ u) :=
  ⟨rfl, rfl, rfl, by simp, fun k hk => Below.heap_setCell w ⟨b, i, none⟩ u k (by simp; omega)⟩
theorem al4' (w : World) (o1 o2 o3 o4 : Obj) : ((((w.alloc o1).alloc o2).alloc o3).alloc o4).heap[w.heap.size]? = some o1 ∧ ((((w.alloc o1).alloc o2).alloc o3).alloc o4).heap[w.heap.size + 1]? = some o2 ∧ ((((w.alloc o1).alloc o2).alloc o3).alloc o4).heap[w.heap.size + 1 + 1]? = some o3 ∧ ((((w.alloc o1).alloc o2).alloc o3).alloc o4).heap[w.heap.size + 1 + 1 + 1]? = some o4 ∧ Below w.heap.size w ((((w.alloc o1).alloc o2).alloc o3).alloc o4) ∧ ((((w.alloc o1).alloc o2).alloc o3).alloc o4).heap.size = w.heap.size + 4 := by
  have h1 := heap_alloc_new w o1
  have h2 := heap_alloc_new (w.alloc o1) o2
  have h3 := heap_alloc_new ((w.alloc o1).alloc o2) o3
  have h4 := heap_alloc_new (((w.alloc o1).alloc o2).alloc o3) o4
  simp only [World.size_alloc] at h2 h3 h4
  refine ⟨?_, ?_, ?_, h4, ?_, by simp⟩
  · exact (Below.heap_alloc _ _ _ (by simp only [World.size_alloc]; omega)).trans ((Below.heap_alloc _ _ _ (by simp only [World.size_alloc]; omega)).trans ((Below.heap_alloc _ _ _ (by simp only [World.size_alloc]; omega)).trans h1))
  · exact (Below.heap_alloc _ _ _ (by simp only [World.size_alloc]; omega)).trans ((Below.heap_alloc _ _ _ (by simp only [World.size_alloc]; omega)).trans h2)
  · exact (Below.heap_alloc _ _ _ (by simp only [World.size_alloc]; omega)).trans h3
  · exact ((((Below.refl _ _).alloc (Nat.le_refl _) _).alloc (by simp) _).alloc (by simp; omega) _).alloc (by simp; omega) _
end Go.Proofs.YtieekajjoikepaaGreatDoor
