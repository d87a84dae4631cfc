/-
  Digits of numbers: small facts on the model's bit operations at int.
-/
import Derived.WalkKit
namespace Go.Proofs.YtieekajjoikepaaGreatDoor
open Go.RowKit
set_option linter.unusedVariables false

theorem toNat_ofInt64 (a : Nat) (ha : a < 9223372036854775808) : (BitVec.ofInt 64 (a : Int)).toNat = a := by
  rw [BitVec.ofInt_natCast, BitVec.toNat_ofNat]
  exact Nat.mod_eq_of_lt (by omega)
theorem toNat_ofInt64' (a : Nat) (ha : a < 18446744073709551616) : (BitVec.ofInt 64 (a : Int)).toNat = a := by
  rw [BitVec.ofInt_natCast, BitVec.toNat_ofNat]
  exact Nat.mod_eq_of_lt (by omega)
theorem toNat_ofInt32 (a : Nat) (ha : a < 4294967296) : (BitVec.ofInt 32 (a : Int)).toNat = a := by
  rw [BitVec.ofInt_natCast, BitVec.toNat_ofNat]
  exact Nat.mod_eq_of_lt (by omega)
theorem or_i64 (a b : Nat) (ha : a < 4294967296) (hb : b < 4294967296) : bits .or .i64 (a : Int) (b : Int) = ((a ||| b : Nat) : Int) := by
  have hx : a ||| b < 2 ^ 32 := Nat.or_lt_two_pow (by omega) (by omega)
  show IntKind.i64.wrap ((BitVec.ofInt 64 (a : Int) ||| BitVec.ofInt 64 (b : Int)).toNat : Int) = _
  rw [BitVec.toNat_or, toNat_ofInt64 a (by omega), toNat_ofInt64 b (by omega), IntKind.wrap_i64]
  omega

theorem or_byte (a b c : Nat) (ha : a < 256) (hb : b < 256) (hc : c < 256) : (a * 65536 ||| b * 256) ||| c = a * 65536 + b * 256 + c := by
  have h1 : 2 ^ 16 * a + b * 256 = 2 ^ 16 * a ||| b * 256 := Nat.two_pow_add_eq_or_of_lt (by omega) a
  have h2 : 2 ^ 8 * (a * 256 + b) + c = 2 ^ 8 * (a * 256 + b) ||| c := Nat.two_pow_add_eq_or_of_lt (by omega) _
  have e1 : a * 65536 = 2 ^ 16 * a := by omega
  have e2 : 2 ^ 16 * a + b * 256 = 2 ^ 8 * (a * 256 + b) := by omega
  rw [e1, ← h1, e2, ← h2]

/-- The number of three bytes. -/
def num3 (l : List UInt8) : Nat := (l.getD 0 0).toNat * 65536 + (l.getD 1 0).toNat * 256 + (l.getD 2 0).toNat
theorem num3_lt (l : List UInt8) : num3 l < 16777216 := by
  have h1 := (l.getD 0 0).toNat_lt
  have h2 := (l.getD 1 0).toNat_lt
  have h3 := (l.getD 2 0).toNat_lt
  unfold num3
  omega
theorem num3_bits (x y z : UInt8) (b : Int) (hb : 1 ≤ b) : (bits .or .i64 (bits .or .i64 (wrap64 (wrap64 (x.toNat : Int) * 65536)) (wrap64 (wrap64 (y.toNat : Int) * 256))) (wrap64 (z.toNat : Int))).tmod b = (num3 [x, y, z] : Int) % b := by
  have h1 := x.toNat_lt
  have h2 := y.toNat_lt
  have h3 := z.toNat_lt
  rw [IntWalk.wrap64_in (x.toNat : Int) ⟨by omega, by omega⟩, IntWalk.wrap64_in (y.toNat : Int) ⟨by omega, by omega⟩, IntWalk.wrap64_in (z.toNat : Int) ⟨by omega, by omega⟩, IntWalk.wrap64_in ((x.toNat : Int) * 65536) ⟨by omega, by omega⟩, IntWalk.wrap64_in ((y.toNat : Int) * 256) ⟨by omega, by omega⟩]
  have e1 : (x.toNat : Int) * 65536 = ((x.toNat * 65536 : Nat) : Int) := by omega
  have e2 : (y.toNat : Int) * 256 = ((y.toNat * 256 : Nat) : Int) := by omega
  have hor : x.toNat * 65536 ||| y.toNat * 256 < 2 ^ 32 := Nat.or_lt_two_pow (by omega) (by omega)
  rw [e1, e2, or_i64 _ _ (by omega) (by omega), or_i64 _ _ (by omega) (by omega), or_byte _ _ _ h1 h2 h3, Int.tmod_eq_emod_of_nonneg (by omega)]
  rfl
end Go.Proofs.YtieekajjoikepaaGreatDoor
