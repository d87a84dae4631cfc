/-
  Contract of keyholeref01.Unlike.
-/
import Derived.Test.YtkbjmmigjjdfpaaGreatDoorGen
namespace Go.Proofs.YtkbjmmigjjdfpaaGreatDoor
open Go.RowKit
set_option linter.unusedVariables false

def unlikeTo (a b : Nat) : Nat → Nat
  | 0 => 0
  | i + 1 => unlikeTo a b i + (if (a / 2 ^ i) % 2 = (b / 2 ^ i) % 2 then 0 else 2 ^ i)
theorem unlikeTo_eq (a b : Nat) : ∀ i, unlikeTo a b i = (a ^^^ b) % 2 ^ i
  | 0 => by simp [unlikeTo, Nat.mod_one]
  | i + 1 => by
    have h := Nat.testBit_xor a b i
    rw [Nat.testBit_eq_decide_div_mod_eq, Nat.testBit_eq_decide_div_mod_eq, Nat.testBit_eq_decide_div_mod_eq] at h
    rw [unlikeTo, unlikeTo_eq a b i, Nat.pow_succ, Nat.mod_mul]
    have h1 : a / 2 ^ i % 2 < 2 := Nat.mod_lt _ (by omega)
    have h2 : b / 2 ^ i % 2 < 2 := Nat.mod_lt _ (by omega)
    have h3 : (a ^^^ b) / 2 ^ i % 2 < 2 := Nat.mod_lt _ (by omega)
    generalize a / 2 ^ i % 2 = x at h1 h ⊢
    generalize b / 2 ^ i % 2 = y at h2 h ⊢
    generalize (a ^^^ b) / 2 ^ i % 2 = z at h3 h ⊢
    have hx : x = 0 ∨ x = 1 := by omega
    have hy : y = 0 ∨ y = 1 := by omega
    have hz : z = 0 ∨ z = 1 := by omega
    rcases hx with rfl | rfl <;> rcases hy with rfl | rfl <;> rcases hz with rfl | rfl <;> simp at h ⊢

end Go.Proofs.YtkbjmmigjjdfpaaGreatDoor
