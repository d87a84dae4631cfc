/-
  The field of 256 digits: plain facts, no program in sight. Tripling is linear, and each digit but 0 is a power of three.
-/
import Derived.WalkKit
namespace Go.Proofs.Ytidnlginjjgmjaa
set_option linter.unusedVariables false

/-- Twice a digit. -/
def dbl (a : Nat) : Nat := if 2 * a < 256 then 2 * a else (2 * a - 256) ^^^ 27
/-- Three times a digit. -/
def trip (a : Nat) : Nat := a ^^^ dbl a
/-- Three times, n times. -/
def trips : Nat → Nat → Nat
  | 0, a => a
  | n + 1, a => trips n (trip a)
def pows : Nat → Nat → List Nat
  | 0, _ => []
  | n + 1, a => a :: pows n (trip a)
/-- The digit of each number of triplings, from 1 on. -/
def digitT : List Nat := pows 255 1
/-- Each digit's number of triplings. -/
def numT (a : Nat) : Nat := digitT.idxOf a

theorem bytes_all {p : Nat → Bool} (h : (List.range 256).all p = true) (a : Nat) (ha : a < 256) : p a = true := List.all_eq_true.1 h a (by simpa using ha)
theorem trip_lt (a : Nat) (ha : a < 256) : trip a < 256 := by
  have : (List.range 256).all (fun a => decide (trip a < 256)) = true := by decide +kernel
  simpa using bytes_all this a ha
theorem trip_zero : trip 0 = 0 := by decide
theorem trip_xor (a b : Nat) (ha : a < 256) (hb : b < 256) : trip (a ^^^ b) = trip a ^^^ trip b := by
  have : (List.range 256).all (fun a => (List.range 256).all fun b => decide (trip (a ^^^ b) = trip a ^^^ trip b)) = true := by decide +kernel
  have h1 := bytes_all this a ha
  have h2 := bytes_all h1 b hb
  simpa using h2
theorem trips_add : ∀ (m n a : Nat), trips (m + n) a = trips n (trips m a)
  | 0, n, a => by simp [trips]
  | m + 1, n, a => by rw [Nat.succ_add, trips, trips, trips_add m n]
theorem trips_lt : ∀ (n a : Nat), a < 256 → trips n a < 256
  | 0, a, h => h
  | n + 1, a, h => trips_lt n _ (trip_lt a h)
theorem trips_zero : ∀ n, trips n 0 = 0
  | 0 => rfl
  | n + 1 => by rw [trips, trip_zero, trips_zero n]
theorem trips_xor : ∀ (n a b : Nat), a < 256 → b < 256 → trips n (a ^^^ b) = trips n a ^^^ trips n b
  | 0, _, _, _, _ => rfl
  | n + 1, a, b, ha, hb => by rw [trips, trip_xor a b ha hb, trips_xor n _ _ (trip_lt a ha) (trip_lt b hb)]; rfl
theorem trips_255 (a : Nat) (ha : a < 256) : trips 255 a = a := by
  have : (List.range 256).all (fun a => decide (trips 255 a = a)) = true := by decide +kernel
  simpa using bytes_all this a ha
theorem trips_num (a : Nat) (h0 : a ≠ 0) (ha : a < 256) : trips (numT a) 1 = a ∧ numT a < 255 := by
  have : (List.range 256).all (fun a => decide (a ≠ 0 → trips (numT a) 1 = a ∧ numT a < 255)) = true := by decide +kernel
  have h := bytes_all this a ha
  rw [decide_eq_true_eq] at h
  exact h h0
theorem num_trips (n : Nat) (hn : n < 255) : numT (trips n 1) = n := by
  have : (List.range 255).all (fun n => decide (numT (trips n 1) = n)) = true := by decide +kernel
  have h := List.all_eq_true.1 this n (by simpa using hn)
  simpa using h
theorem trips_mod (n a : Nat) (ha : a < 256) : trips (n % 255) a = trips n a := by
  have key : ∀ q r, trips (255 * q + r) a = trips r a := by
    intro q
    induction q with
    | zero => intro r; rw [Nat.mul_zero, Nat.zero_add]
    | succ q ih => intro r; rw [Nat.mul_succ, Nat.add_assoc, ih, trips_add, trips_255 a ha]
  conv => rhs; rw [← Nat.div_add_mod n 255, key]
theorem trips_ne (n a : Nat) (h0 : a ≠ 0) (ha : a < 256) : trips n a ≠ 0 := by
  intro e
  have h := congrArg (trips (255 - n % 255)) e
  rw [trips_zero, ← trips_mod n a ha, ← trips_add, show n % 255 + (255 - n % 255) = 255 by omega, trips_255 a ha] at h
  exact h0 h

/-- The product of two digits. -/
def mulG (a b : Nat) : Nat := if a = 0 then 0 else trips (numT a) b
theorem mulG_lt (a b : Nat) (hb : b < 256) : mulG a b < 256 := by
  unfold mulG
  split
  · omega
  · exact trips_lt _ _ hb
theorem mulG_zero (a : Nat) : mulG a 0 = 0 := by
  unfold mulG
  split
  · rfl
  · exact trips_zero _
theorem zero_mulG (b : Nat) : mulG 0 b = 0 := rfl
theorem mulG_pow (a b : Nat) (ha : a ≠ 0) (hb : b ≠ 0) (ha2 : a < 256) (hb2 : b < 256) : mulG a b = trips ((numT a + numT b) % 255) 1 := by
  rw [mulG, if_neg ha, trips_mod _ _ (by omega), Nat.add_comm, trips_add, (trips_num b hb hb2).1]
theorem mulG_comm (a b : Nat) (ha : a < 256) (hb : b < 256) : mulG a b = mulG b a := by
  by_cases h1 : a = 0
  · rw [h1, zero_mulG, mulG_zero]
  · by_cases h2 : b = 0
    · rw [h2, zero_mulG, mulG_zero]
    · rw [mulG_pow a b h1 h2 ha hb, mulG_pow b a h2 h1 hb ha, Nat.add_comm]
theorem mulG_xor (a b c : Nat) (hb : b < 256) (hc : c < 256) : mulG a (b ^^^ c) = mulG a b ^^^ mulG a c := by
  unfold mulG
  split
  · rfl
  · exact trips_xor _ _ _ hb hc
theorem mulG_one (b : Nat) : mulG 1 b = b := by
  rw [mulG, if_neg (by decide), show numT 1 = 0 by decide +kernel]
  rfl
theorem mulG_ne (a b : Nat) (ha : a ≠ 0) (hb : b ≠ 0) (hb2 : b < 256) : mulG a b ≠ 0 := by
  rw [mulG, if_neg ha]
  exact trips_ne _ _ hb hb2
theorem mulG_assoc (a b c : Nat) (ha : a < 256) (hb : b < 256) (hc : c < 256) : mulG (mulG a b) c = mulG a (mulG b c) := by
  by_cases h1 : a = 0
  · rw [h1, zero_mulG, zero_mulG, zero_mulG]
  · by_cases h2 : b = 0
    · rw [h2, mulG_zero, zero_mulG, mulG_zero]
    · have h3 := mulG_ne a b h1 h2 hb
      rw [show mulG (mulG a b) c = trips (numT (mulG a b)) c by rw [mulG, if_neg h3], mulG_pow a b h1 h2 ha hb, num_trips _ (Nat.mod_lt _ (by omega)), trips_mod _ _ hc,
        show mulG a (mulG b c) = trips (numT a) (mulG b c) by rw [mulG, if_neg h1], show mulG b c = trips (numT b) c by rw [mulG, if_neg h2], ← trips_add, Nat.add_comm]
/-- The digit whose product with a is 1. -/
def invG (a : Nat) : Nat := trips ((255 - numT a) % 255) 1
theorem invG_lt (a : Nat) : invG a < 256 := trips_lt _ _ (by omega)
theorem invG_mul (a : Nat) (h0 : a ≠ 0) (ha : a < 256) : mulG a (invG a) = 1 := by
  have hn := (trips_num a h0 ha).2
  rw [mulG, if_neg h0, invG, trips_mod _ _ (by omega), ← trips_add, show 255 - numT a + numT a = 255 by omega, trips_255 1 (by omega)]
end Go.Proofs.Ytidnlginjjgmjaa
