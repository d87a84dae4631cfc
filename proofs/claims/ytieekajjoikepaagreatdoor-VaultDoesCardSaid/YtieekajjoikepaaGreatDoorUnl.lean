/-
  Contract of keyholeref01.Unlike.
-/
import Derived.Test.YtieekajjoikepaaGreatDoorGen
namespace Go.Proofs.YtieekajjoikepaaGreatDoor
open Go.RowKit
set_option linter.unusedVariables false

def unlikeTo (a b : Nat) : Nat → Nat
  | 0 => 0
  | i + 1 => unlikeTo a b i + (if (a / 2 ^ i) % 2 = (b / 2 ^ i) % 2 then 0 else 2 ^ i)
theorem unlikeTo_eq (a b : Nat) : ∀ i, unlikeTo a b i = (a ^^^ b) % 2 ^ i
  | 0 => by simp [unlikeTo, Nat.mod_one]
  | i + 1 => by
    have h := Nat.testBit_xor a b i
    rw [Nat.testBit_eq_decide_div_mod_eq, Nat.testBit_eq_decide_div_mod_eq, Nat.testBit_eq_decide_div_mod_eq] at h
    rw [unlikeTo, unlikeTo_eq a b i, Nat.pow_succ, Nat.mod_mul]
    have h1 : a / 2 ^ i % 2 < 2 := Nat.mod_lt _ (by omega)
    have h2 : b / 2 ^ i % 2 < 2 := Nat.mod_lt _ (by omega)
    have h3 : (a ^^^ b) / 2 ^ i % 2 < 2 := Nat.mod_lt _ (by omega)
    generalize a / 2 ^ i % 2 = x at h1 h ⊢
    generalize b / 2 ^ i % 2 = y at h2 h ⊢
    generalize (a ^^^ b) / 2 ^ i % 2 = z at h3 h ⊢
    have hx : x = 0 ∨ x = 1 := by omega
    have hy : y = 0 ∨ y = 1 := by omega
    have hz : z = 0 ∨ z = 1 := by omega
    rcases hx with rfl | rfl <;> rcases hy with rfl | rfl <;> rcases hz with rfl | rfl <;> simp at h ⊢

set_option maxHeartbeats 400000 in
theorem unlike_any (a b : Nat) (w : World) (ha : a < 4294967296) (hb : b < 4294967296) :
    Calls Tryz.prog 161 #[.int .i64 (a : Nat), .int .i64 (b : Nat)] w fun e w' => e = .returned (.int .i64 ((a ^^^ b : Nat) : Int)) ∧ w' = w := by
  go_enter Tryz.func161, Tryz.ntmps161
  go_wp2_with fail
  go_loop [0, 1, 5, 6, 7] (fun x y n p i => ∃ k : Nat, k ≤ 32 ∧ i = .int .i64 k ∧ x = .int .i64 (a / 2 ^ k : Nat) ∧ y = .int .i64 (b / 2 ^ k : Nat) ∧ p = .int .i64 (2 ^ k : Nat) ∧ n = .int .i64 (unlikeTo a b k : Nat)) (fun _ _ _ _ i => 32 - (intOf i).toNat)
  case atStart => exact ⟨0, by omega, rfl, by simp, by simp, rfl, rfl⟩
  case round =>
    obtain ⟨k, hk, rfl, rfl, rfl, rfl, rfl⟩ := hrel
    have hu : unlikeTo a b k < 2 ^ k := by rw [unlikeTo_eq]; exact Nat.mod_lt _ (Nat.two_pow_pos _)
    have hp : 2 ^ k ≤ 2 ^ 32 := Nat.pow_le_pow_right (by omega) hk
    have hx : a / 2 ^ k ≤ a := Nat.div_le_self _ _
    have hy : b / 2 ^ k ≤ b := Nat.div_le_self _ _
    have Hsu := Lib.hid (show unlikeTo a b (k + 1) = unlikeTo a b k + (if (a / 2 ^ k) % 2 = (b / 2 ^ k) % 2 then 0 else 2 ^ k) from rfl)
    have Hx := Lib.hid (show a / 2 ^ (k + 1) = a / 2 ^ k / 2 by rw [Nat.pow_succ, Nat.div_div_eq_div_mul])
    have Hy := Lib.hid (show b / 2 ^ (k + 1) = b / 2 ^ k / 2 by rw [Nat.pow_succ, Nat.div_div_eq_div_mul])
    have Hp := Lib.hid (show 2 ^ (k + 1) = 2 * 2 ^ k by rw [Nat.pow_succ, Nat.mul_comm])
    by_cases hlt : k < 32
    · generalize unlikeTo a b k = u at hu Hsu
      generalize a / 2 ^ k = x at hx Hx Hsu
      generalize b / 2 ^ k = y at hy Hy Hsu
      generalize 2 ^ k = p at hp hu Hp Hsu
      by_cases hxy : x % 2 = y % 2
      · have hB : (((x : Int) % 2) != ((y : Int) % 2)) = false := by
          have : (x : Int) % 2 = (y : Int) % 2 := by omega
          simp [this]
        go_wp2_with fail
        go_round
        case rel =>
          refine ⟨k + 1, by omega, by go_num, ?_, ?_, ?_, ?_⟩
          · rw [Hx.out]; go_num
          · rw [Hy.out]; go_num
          · rw [Hp.out]; go_num
          · rw [Hsu.out, if_pos hxy]; go_num
        case measure => simp [intOf]; omega
      · have hB : (((x : Int) % 2) != ((y : Int) % 2)) = true := by
          rw [bne_iff_ne]
          omega
        go_wp2_with fail
        go_round
        case rel =>
          refine ⟨k + 1, by omega, by go_num, ?_, ?_, ?_, ?_⟩
          · rw [Hx.out]; go_num
          · rw [Hy.out]; go_num
          · rw [Hp.out]; go_num
          · rw [Hsu.out, if_neg hxy]; go_num
        case measure => simp [intOf]; omega
    · obtain rfl : k = 32 := by omega
      have Hf := Lib.hid (show unlikeTo a b 32 = a ^^^ b by
        rw [unlikeTo_eq, Nat.mod_eq_of_lt]
        exact Nat.xor_lt_two_pow (by omega) (by omega))
      clear hu hp hx hy
      go_wp2_with fail
      go_ret
      exact ⟨ret_int (by rw [Hf.out]), rfl⟩

end Go.Proofs.YtieekajjoikepaaGreatDoor
