/-
  Contracts of keyholeref01 at words: Unlike, Both, Turned, Sum, Is, All.
  Contracts of keyholeref01's word, Cut, Told, Join.
-/
import Derived.Test.YtkbjmmigjjdfpaaGreatDoorUnl
import Derived.Test.YtkbjmmigjjdfpaaGreatDoorSm
namespace Go.Proofs.YtkbjmmigjjdfpaaGreatDoor
/- R01 -/
open Go.RowKit
set_option linter.unusedVariables false
set_option maxRecDepth 100000
set_option maxHeartbeats 600000

theorem wd_nat {a : Int} (h : Wd a) : ∃ n : Nat, a = (n : Int) ∧ n < 4294967296 := by
  obtain ⟨h0, h1⟩ := h
  obtain ⟨n, rfl⟩ := Int.eq_ofNat_of_zero_le h0
  exact ⟨n, rfl, by omega⟩
/-- Turned one place. -/
def rot1 (x : Nat) : Nat := 2 * x % 4294967296 + 2 * x / 4294967296
def rotT (x : Nat) : Nat → Nat
  | 0 => x
  | i + 1 => rot1 (rotT x i)
theorem rotT_eq (x : Nat) (hx : x < 4294967296) : ∀ i, i ≤ 32 → rotT x i = (x % 2 ^ (32 - i)) * 2 ^ i + x / 2 ^ (32 - i)
  | 0, _ => by simp [rotT, Nat.mod_eq_of_lt hx, Nat.div_eq_of_lt hx]
  | i + 1, h => by
    rw [rotT, rotT_eq x hx i (by omega)]
    have hQ : 2 ^ (32 - i) = 2 * 2 ^ (32 - (i + 1)) := by rw [← Nat.pow_succ', show (32 - (i + 1)).succ = 32 - i by omega]
    have hP : 2 ^ (i + 1) = 2 * 2 ^ i := by rw [Nat.pow_succ, Nat.mul_comm]
    have hPQ : 2 * 2 ^ i * 2 ^ (32 - (i + 1)) = 4294967296 := by
      rw [← hP, ← Nat.pow_add, show i + 1 + (32 - (i + 1)) = 32 by omega]
    rw [hQ, hP]
    generalize 2 ^ (32 - (i + 1)) = Q at hPQ
    generalize 2 ^ i = P at hPQ
    have hQ0 : 0 < Q := by
      rcases Nat.eq_zero_or_pos Q with e | e
      · rw [e] at hPQ; simp at hPQ
      · exact e
    -- x = Q * (2 * hi + b) + lo
    have e1 : x % (2 * Q) = x % Q + Q * (x / Q % 2) := by rw [Nat.mul_comm 2 Q, Nat.mod_mul]
    have e2 : x / (2 * Q) = x / Q / 2 := by rw [Nat.mul_comm, Nat.div_div_eq_div_mul]
    rw [e1, e2]
    have hlo : x % Q < Q := Nat.mod_lt _ hQ0
    have hhi : x / Q < 2 * P := by
      rw [Nat.div_lt_iff_lt_mul hQ0]
      omega
    generalize x % Q = lo at hlo
    generalize x / Q = hi at hhi
    have hb : hi % 2 = 0 ∨ hi % 2 = 1 := by omega
    obtain ⟨A, hA⟩ : ∃ A, A = P * lo := ⟨_, rfl⟩
    have hA1 : 2 * A + 2 * P ≤ 4294967296 := by
      have : P * (lo + 1) ≤ P * Q := Nat.mul_le_mul_left _ hlo
      rw [Nat.mul_succ, ← hA] at this
      have h3 : 2 * P * Q = 2 * (P * Q) := Nat.mul_assoc _ _ _
      omega
    have m1 : lo * (2 * P) = 2 * A := by rw [hA, Nat.mul_comm lo, Nat.mul_assoc]
    rw [m1, rot1]
    rcases hb with hb | hb
    · rw [hb, Nat.mul_zero, Nat.add_zero, Nat.mul_comm lo P, ← hA]
      have : 2 * (A + hi / 2) < 4294967296 := by omega
      rw [Nat.mod_eq_of_lt this, Nat.div_eq_of_lt this]
      omega
    · have m2 : (lo + Q * 1) * P = A + Q * P := by rw [Nat.mul_one, Nat.add_mul, hA, Nat.mul_comm lo P]
      have m3 : 2 * (Q * P) = 4294967296 := by rw [← hPQ, Nat.mul_assoc, Nat.mul_comm P Q]
      rw [hb, m2]
      generalize Q * P = QP at m3
      omega
theorem rotT_rot (x i : Nat) (hx : x < 4294967296) (hi : i ≤ 32) : ((rotT x i : Nat) : Int) = rotI (x : Int) (i : Int) := by
  rw [rotT_eq x hx i hi, rotI, Int.toNat_natCast, Int.toNat_natCast]
  congr 1
  by_cases e : i = 32
  · subst e
    simp [Nat.mod_one, Nat.mod_eq_of_lt hx, Nat.shiftRight_eq_div_pow, Nat.div_eq_of_lt hx]
  · have h2 : i % 32 = i := Nat.mod_eq_of_lt (by omega)
    rw [h2, Nat.shiftLeft_eq, Nat.shiftRight_eq_div_pow]
    have h3 : x * 2 ^ i % 4294967296 = (x % 2 ^ (32 - i)) * 2 ^ i := by
      have : (4294967296 : Nat) = 2 ^ (32 - i) * 2 ^ i := by rw [← Nat.pow_add, show 32 - i + i = 32 by omega]
      rw [this, Nat.mul_mod_mul_right]
    rw [h3, ← Nat.shiftLeft_eq]
    refine Nat.shiftLeft_add_eq_or_of_lt ?_ _
    rw [Nat.div_lt_iff_lt_mul (Nat.two_pow_pos _), ← Nat.pow_add, show i + (32 - i) = 32 by omega]
    exact hx
theorem rot1_lt (x : Nat) (h : x < 4294967296) : rot1 x < 4294967296 := by rw [rot1]; omega
theorem rotT_lt (x : Nat) (h : x < 4294967296) : ∀ i, rotT x i < 4294967296
  | 0 => h
  | i + 1 => rot1_lt _ (rotT_lt x h i)
/- R01b -/
open Go.RowKit
set_option linter.unusedVariables false
set_option maxRecDepth 100000
set_option maxHeartbeats 600000

theorem or_step (A b k : Nat) (hb : b < 256) : A <<< (k + 8) ||| b <<< k = (A * 256 + b) <<< k := by
  have h : A <<< 8 + b = A <<< 8 ||| b := Nat.shiftLeft_add_eq_or_of_lt (show b < 2 ^ 8 from hb) A
  rw [Nat.add_comm k 8, Nat.shiftLeft_add, ← Nat.shiftLeft_or_distrib, ← h, Nat.shiftLeft_eq A 8]
theorem or_turn (x y z t : Nat) : x ||| y ||| z ||| t = t ||| z ||| y ||| x := by
  rw [Nat.or_comm (x ||| y ||| z) t, Nat.or_comm (x ||| y) z, Nat.or_comm x y, ← Nat.or_assoc, ← Nat.or_assoc]
/-- A word of four bytes, k of them done. -/
def wordN (s : List UInt8) (a : Nat) (high : Bool) : Nat → Nat
  | 0 => 0
  | i + 1 => 256 * wordN s a high i + (s.getD (if high then a + i else a + 3 - i) 0).toNat
theorem wordN_lt (s : List UInt8) (a : Nat) (high : Bool) : ∀ i, wordN s a high i < 256 ^ i
  | 0 => by simp [wordN]
  | i + 1 => by
    have h := wordN_lt s a high i
    have hb := (s.getD (if high then a + i else a + 3 - i) 0).toNat_lt
    rw [wordN, Nat.pow_succ]
    omega
theorem cutAcc_zero (s : List UInt8) (high : Bool) (j : Nat) : ∀ i, i ≤ 4 * j → cutAcc s high i j = 0
  | 0, _ => rfl
  | i + 1, h => by rw [cutAcc, if_neg (by omega), cutAcc_zero s high j i (by omega)]
theorem cutAcc_skip (s : List UInt8) (high : Bool) (j : Nat) : ∀ d, cutAcc s high (4 * j + 4 + d) j = cutAcc s high (4 * j + 4) j
  | 0 => rfl
  | d + 1 => by rw [← Nat.add_assoc, cutAcc, if_neg (by omega), cutAcc_skip s high j d]
theorem cutAcc_word (s : List UInt8) (high : Bool) (j : Nat) (h : 4 * j + 4 ≤ s.length) : cutAcc s high s.length j = wordN s (4 * j) high 4 := by
  obtain ⟨d, hd⟩ : ∃ d, s.length = 4 * j + 4 + d := ⟨s.length - (4 * j + 4), by omega⟩
  rw [hd, cutAcc_skip]
  have z := cutAcc_zero s high j (4 * j) (Nat.le_refl _)
  have b0 := (s.getD (4 * j) 0).toNat_lt
  have b1 := (s.getD (4 * j + 1) 0).toNat_lt
  have b2 := (s.getD (4 * j + 2) 0).toNat_lt
  have b3 := (s.getD (4 * j + 3) 0).toNat_lt
  rw [cutAcc, if_pos (by omega), cutAcc, if_pos (by omega), cutAcc, if_pos (by omega), cutAcc, if_pos (by omega), z, Nat.zero_or]
  rw [show (4 * j + 3) % 4 = 3 by omega, show (4 * j + 2) % 4 = 2 by omega, show (4 * j + 1) % 4 = 1 by omega, show 4 * j % 4 = 0 by omega]
  cases high with
  | true =>
    simp only [placeI, wordN, if_true, Nat.add_zero]
    generalize (s.getD (4 * j) 0).toNat = x0 at b0
    generalize (s.getD (4 * j + 1) 0).toNat = x1 at b1
    generalize (s.getD (4 * j + 2) 0).toNat = x2 at b2
    generalize (s.getD (4 * j + 3) 0).toNat = x3 at b3
    have e1 := or_step x0 x1 16 b1
    have e2 := or_step (x0 * 256 + x1) x2 8 b2
    have e3 := or_step ((x0 * 256 + x1) * 256 + x2) x3 0 b3
    simp only [Nat.reduceAdd, Nat.reduceMul, Nat.reduceSub, Nat.zero_add] at e1 e2 e3 ⊢
    rw [e1, e2, e3, Nat.shiftLeft_zero]
    omega
  | false =>
    simp only [placeI, wordN, Bool.false_eq_true, if_false]
    simp only [show 4 * j + 3 - 0 = 4 * j + 3 by omega, show 4 * j + 3 - 1 = 4 * j + 2 by omega, show 4 * j + 3 - 2 = 4 * j + 1 by omega, show 4 * j + 3 - 3 = 4 * j by omega]
    generalize (s.getD (4 * j) 0).toNat = x0 at b0
    generalize (s.getD (4 * j + 1) 0).toNat = x1 at b1
    generalize (s.getD (4 * j + 2) 0).toNat = x2 at b2
    generalize (s.getD (4 * j + 3) 0).toNat = x3 at b3
    rw [or_turn]
    have e1 := or_step x3 x2 16 b2
    have e2 := or_step (x3 * 256 + x2) x1 8 b1
    have e3 := or_step ((x3 * 256 + x2) * 256 + x1) x0 0 b0
    simp only [Nat.reduceAdd, Nat.reduceMul, Nat.zero_add, Nat.mul_zero] at e1 e2 e3 ⊢
    rw [e1, e2, e3, Nat.shiftLeft_zero]
    omega
theorem str1_at (s : ByteArray) (k : Nat) (h : k < s.size) : s[k] = s.data.toList.getD k 0 := by
  have h2 : k < s.data.size := h
  rw [ByteArray.getElem_eq_getElem_data, List.getD_eq_getElem?_getD, Array.getElem?_toList, Array.getElem?_eq_getElem h2]
  rfl
theorem wrap64_b (x : UInt8) : wrap64 (x.toNat : Int) = (x.toNat : Int) := by
  have := x.toNat_lt
  exact IntWalk.wrap64_in _ ⟨by omega, by omega⟩
theorem cutL_snoc (s : List UInt8) (high : Bool) (n : Nat) : cutL s high (n + 1) = cutL s high n ++ [((cutAcc s high s.length n : Nat) : Int)] := by simp [cutL, List.range_succ]
/-- A word's four bytes. -/
def toldL (x : Nat) (high : Bool) : List UInt8 := if high then [UInt8.ofNat (x / 16777216), UInt8.ofNat (x / 65536), UInt8.ofNat (x / 256), UInt8.ofNat x] else [UInt8.ofNat x, UInt8.ofNat (x / 256), UInt8.ofNat (x / 65536), UInt8.ofNat (x / 16777216)]
theorem ofNat_mod (x : Nat) : UInt8.ofNat (x % 256) = UInt8.ofNat x := by
  apply UInt8.toNat_inj.1
  simp
theorem joinL_snoc (xs : List Int) (x : Nat) (high : Bool) : joinL (xs ++ [(x : Int)]) high = joinL xs high ++ toldL x high := by
  apply List.ext_getElem
  · rw [joinL_length, List.length_append, List.length_append, joinL_length]
    cases high <;> simp [toldL] <;> omega
  · intro p h1 h2
    rw [joinL_length, List.length_append] at h1
    simp only [List.length_cons, List.length_nil] at h1
    by_cases c : p < 4 * xs.length
    · rw [List.getElem_append_left (by rw [joinL_length]; exact c)]
      simp only [joinL, List.getElem_map, List.getElem_range, joinB]
      rw [show (xs ++ [(x : Int)]).getD (p / 4) 0 = xs.getD (p / 4) 0 by rw [List.getD_eq_getElem?_getD, List.getElem?_append_left (by omega), List.getD_eq_getElem?_getD]]
    · rw [List.getElem_append_right (by rw [joinL_length]; omega)]
      simp only [joinL_length]
      obtain ⟨r, hr⟩ : ∃ r, p = 4 * xs.length + r := ⟨p - 4 * xs.length, by omega⟩
      subst hr
      have hr4 : r < 4 := by omega
      have hd : (4 * xs.length + r) / 4 = xs.length := by omega
      have hm : (4 * xs.length + r) % 4 = r := by omega
      simp only [joinL, List.getElem_map, List.getElem_range, joinB, hd, hm, ofNat_mod, Nat.shiftRight_eq_div_pow]
      have hg : (xs ++ [(x : Int)]).getD xs.length 0 = (x : Int) := by simp
      rw [hg, Int.toNat_natCast]
      have hs : 4 * xs.length + r - 4 * xs.length = r := by omega
      have hcase : r = 0 ∨ r = 1 ∨ r = 2 ∨ r = 3 := by omega
      cases high <;> rcases hcase with rfl | rfl | rfl | rfl <;> simp [placeI, toldL]
theorem conv4 (a b c d : UInt8) (w : World) (g : Nat) (hg : w.heap.size = g) : (convert 148 9 (.slice (some ⟨g, 0, none⟩) 4 4)).run Tryz.prog (w.alloc (.cells #[.int .u8 (a.toNat : Int), .int .u8 (b.toNat : Int), .int .u8 (c.toNat : Int), .int .u8 (d.toNat : Int)] 5)) = .ok (.string (bs [a, b, c, d])) (w.alloc (.cells #[.int .u8 (a.toNat : Int), .int .u8 (b.toNat : Int), .int .u8 (c.toNat : Int), .int .u8 (d.toNat : Int)] 5)) :=
  conv_rd (l := [a, b, c, d]) (rd_new' w _ _ g hg) 4 4 rfl
theorem byte_of (x : Nat) : ((UInt8.ofNat x).toNat : Int) = ((x % 256 : Nat) : Int) := by simp
theorem told_cells (x : Nat) (hx : x < 4294967296) : ((x : Int) / 16777216) = ((UInt8.ofNat (x / 16777216)).toNat : Int) ∧ ((x : Int) / 65536 % 256) = ((UInt8.ofNat (x / 65536)).toNat : Int) ∧ ((x : Int) / 256 % 256) = ((UInt8.ofNat (x / 256)).toNat : Int) ∧ ((x : Int) % 256) = ((UInt8.ofNat x).toNat : Int) := by
  rw [byte_of, byte_of, byte_of, byte_of]
  refine ⟨?_, ?_, ?_, ?_⟩ <;> omega
end Go.Proofs.YtkbjmmigjjdfpaaGreatDoor
