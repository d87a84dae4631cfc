/-
  Contract of the law's answer.
-/
import Derived.Test.YtkbjmmigjjdfpaaGreatDoorOd
namespace Go.Proofs.YtkbjmmigjjdfpaaGreatDoor
open Go.RowKit
set_option linter.unusedVariables false
set_option linter.unusedSimpArgs false
set_option maxRecDepth 100000
set_option maxHeartbeats 2000000

theorem load_ans {w : World} {g : Nat} {a0 a1 a2 a3 : Value} {t : TypeId} (h : w.heap[g]? = some (.cells #[a0, a1, a2, a3] t (0, 0))) : (loadVar 45 ⟨g, 0, none⟩).run Tryz.prog w = .ok (.agg #[a0, a1, a2, a3]) w := by
  have := run_loadVar_mid (P := Tryz.prog) w g 0 45 [a0, a1, a2, a3] _ (fun j v hj => by
    rw [Nat.zero_add, cell_of_row w g j _ _ _ h]
    simpa using hj) Tryz.underlying45 rfl (by kernel_rfl)
  simpa using this
theorem four_set {W : World} {g : Nat} {t : TypeId} {a0 a1 a2 a3 : Value} (h : W.heap[g]? = some (.cells #[a0, a1, a2, a3] t (0, 0))) (b0 b1 b2 b3 : Value) :
    ((((W.setCell ⟨g, 0, none⟩ b0).setCell ⟨g, 1, none⟩ b1).setCell ⟨g, 2, none⟩ b2).setCell ⟨g, 3, none⟩ b3).heap[g]? = some (.cells #[b0, b1, b2, b3] t (0, 0)) := by
  have := blk_set (blk_set (blk_set (blk_set h 0 b0) 1 b1) 2 b2) 3 b3
  simp only [List.setIfInBounds_toArray, List.set_cons_zero, List.set_cons_succ] at this
  exact this
def ansA (a : Ans) : Value := .agg #[.string a.nm, .string a.salt, .int .i64 a.x, .string a.b]
end Go.Proofs.YtkbjmmigjjdfpaaGreatDoor
