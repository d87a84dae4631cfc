/-
  Contracts of keyholeref01 at words: Unlike, Both, Turned, Sum, Is, All.
  Contracts of keyholeref01's word, Cut, Told, Join.
-/
import Derived.Test.YtieekajjoikepaaGreatDoorUnl
import Derived.Test.YtieekajjoikepaaGreatDoorSm
namespace Go.Proofs.YtieekajjoikepaaGreatDoor
/- R01 -/
open Go.RowKit
set_option linter.unusedVariables false
set_option maxRecDepth 100000
set_option maxHeartbeats 600000

theorem wd_nat {a : Int} (h : Wd a) : ∃ n : Nat, a = (n : Int) ∧ n < 4294967296 := by
  obtain ⟨h0, h1⟩ := h
  obtain ⟨n, rfl⟩ := Int.eq_ofNat_of_zero_le h0
  exact ⟨n, rfl, by omega⟩
theorem unlike1 (a b : Int) (w : World) (ha : Wd a) (hb : Wd b) : Calls Tryz.prog 161 #[.int .i64 a, .int .i64 b] w fun e w' => e = .returned (.int .i64 (xorI a b)) ∧ w' = w := by
  obtain ⟨m, rfl, hm⟩ := wd_nat ha
  obtain ⟨n, rfl, hn⟩ := wd_nat hb
  exact unlike_any m n w hm hn

def bothTo (a b : Nat) : Nat → Nat
  | 0 => 0
  | i + 1 => bothTo a b i + (if (a / 2 ^ i) % 2 = 1 ∧ (b / 2 ^ i) % 2 = 1 then 2 ^ i else 0)
theorem bothTo_eq (a b : Nat) : ∀ i, bothTo a b i = (a &&& b) % 2 ^ i
  | 0 => by simp [bothTo, Nat.mod_one]
  | i + 1 => by
    have h := Nat.testBit_and a b i
    rw [Nat.testBit_eq_decide_div_mod_eq, Nat.testBit_eq_decide_div_mod_eq, Nat.testBit_eq_decide_div_mod_eq] at h
    rw [bothTo, bothTo_eq a b i, Nat.pow_succ, Nat.mod_mul]
    have h1 : a / 2 ^ i % 2 < 2 := Nat.mod_lt _ (by omega)
    have h2 : b / 2 ^ i % 2 < 2 := Nat.mod_lt _ (by omega)
    have h3 : (a &&& b) / 2 ^ i % 2 < 2 := Nat.mod_lt _ (by omega)
    generalize a / 2 ^ i % 2 = x at h1 h ⊢
    generalize b / 2 ^ i % 2 = y at h2 h ⊢
    generalize (a &&& b) / 2 ^ i % 2 = z at h3 h ⊢
    have hx : x = 0 ∨ x = 1 := by omega
    have hy : y = 0 ∨ y = 1 := by omega
    have hz : z = 0 ∨ z = 1 := by omega
    rcases hx with rfl | rfl <;> rcases hy with rfl | rfl <;> rcases hz with rfl | rfl <;> simp at h ⊢

theorem both_any (a b : Nat) (w : World) (ha : a < 4294967296) (hb : b < 4294967296) :
    Calls Tryz.prog 162 #[.int .i64 (a : Nat), .int .i64 (b : Nat)] w fun e w' => e = .returned (.int .i64 ((a &&& b : Nat) : Int)) ∧ w' = w := by
  go_enter Tryz.func162, Tryz.ntmps162
  go_wp2_with fail
  go_loop [0, 1, 5, 6, 7] (fun x y n p i => ∃ k : Nat, k ≤ 32 ∧ i = .int .i64 k ∧ x = .int .i64 (a / 2 ^ k : Nat) ∧ y = .int .i64 (b / 2 ^ k : Nat) ∧ p = .int .i64 (2 ^ k : Nat) ∧ n = .int .i64 (bothTo a b k : Nat)) (fun _ _ _ _ i => 32 - (intOf i).toNat)
  case atStart => exact ⟨0, by omega, rfl, by simp, by simp, rfl, rfl⟩
  case round =>
    obtain ⟨k, hk, rfl, rfl, rfl, rfl, rfl⟩ := hrel
    have hu : bothTo a b k < 2 ^ k := by rw [bothTo_eq]; exact Nat.mod_lt _ (Nat.two_pow_pos _)
    have hp : 2 ^ k ≤ 2 ^ 32 := Nat.pow_le_pow_right (by omega) hk
    have hx : a / 2 ^ k ≤ a := Nat.div_le_self _ _
    have hy : b / 2 ^ k ≤ b := Nat.div_le_self _ _
    have Hsu := Lib.hid (show bothTo a b (k + 1) = bothTo a b k + (if (a / 2 ^ k) % 2 = 1 ∧ (b / 2 ^ k) % 2 = 1 then 2 ^ k else 0) from rfl)
    have Hx := Lib.hid (show a / 2 ^ (k + 1) = a / 2 ^ k / 2 by rw [Nat.pow_succ, Nat.div_div_eq_div_mul])
    have Hy := Lib.hid (show b / 2 ^ (k + 1) = b / 2 ^ k / 2 by rw [Nat.pow_succ, Nat.div_div_eq_div_mul])
    have Hp := Lib.hid (show 2 ^ (k + 1) = 2 * 2 ^ k by rw [Nat.pow_succ, Nat.mul_comm])
    by_cases hlt : k < 32
    · generalize bothTo a b k = u at hu Hsu
      generalize a / 2 ^ k = x at hx Hx Hsu
      generalize b / 2 ^ k = y at hy Hy Hsu
      generalize 2 ^ k = p at hp hu Hp Hsu
      by_cases h1 : x % 2 = 1
      · have hA : (((x : Int) % 2) == 1) = true := by simp; omega
        by_cases h2 : y % 2 = 1
        · have hB : (((y : Int) % 2) == 1) = true := by simp; omega
          go_wp2_with fail
          go_round
          case rel =>
            refine ⟨k + 1, by omega, by go_num, ?_, ?_, ?_, ?_⟩
            · rw [Hx.out]; go_num
            · rw [Hy.out]; go_num
            · rw [Hp.out]; go_num
            · rw [Hsu.out, if_pos ⟨h1, h2⟩]; go_num
          case measure => simp [intOf]; omega
        · have hB : (((y : Int) % 2) == 1) = false := by simp; omega
          go_wp2_with fail
          go_round
          case rel =>
            refine ⟨k + 1, by omega, by go_num, ?_, ?_, ?_, ?_⟩
            · rw [Hx.out]; go_num
            · rw [Hy.out]; go_num
            · rw [Hp.out]; go_num
            · rw [Hsu.out, if_neg (fun h => h2 h.2)]; go_num
          case measure => simp [intOf]; omega
      · have hA : (((x : Int) % 2) == 1) = false := by simp; omega
        go_wp2_with fail
        go_round
        case rel =>
          refine ⟨k + 1, by omega, by go_num, ?_, ?_, ?_, ?_⟩
          · rw [Hx.out]; go_num
          · rw [Hy.out]; go_num
          · rw [Hp.out]; go_num
          · rw [Hsu.out, if_neg (fun h => h1 h.1)]; go_num
        case measure => simp [intOf]; omega
    · obtain rfl : k = 32 := by omega
      have Hf := Lib.hid (show bothTo a b 32 = a &&& b by
        rw [bothTo_eq, Nat.mod_eq_of_lt]
        exact Nat.and_lt_two_pow _ (by omega))
      clear hu hp hx hy
      go_wp2_with fail
      go_ret
      exact ⟨ret_int (by rw [Hf.out]), rfl⟩
theorem both1 (a b : Int) (w : World) (ha : Wd a) (hb : Wd b) : Calls Tryz.prog 162 #[.int .i64 a, .int .i64 b] w fun e w' => e = .returned (.int .i64 (andI a b)) ∧ w' = w := by
  obtain ⟨m, rfl, hm⟩ := wd_nat ha
  obtain ⟨n, rfl, hn⟩ := wd_nat hb
  exact both_any m n w hm hn

/-- Turned one place. -/
def rot1 (x : Nat) : Nat := 2 * x % 4294967296 + 2 * x / 4294967296
def rotT (x : Nat) : Nat → Nat
  | 0 => x
  | i + 1 => rot1 (rotT x i)
theorem rotT_eq (x : Nat) (hx : x < 4294967296) : ∀ i, i ≤ 32 → rotT x i = (x % 2 ^ (32 - i)) * 2 ^ i + x / 2 ^ (32 - i)
  | 0, _ => by simp [rotT, Nat.mod_eq_of_lt hx, Nat.div_eq_of_lt hx]
  | i + 1, h => by
    rw [rotT, rotT_eq x hx i (by omega)]
    have hQ : 2 ^ (32 - i) = 2 * 2 ^ (32 - (i + 1)) := by rw [← Nat.pow_succ', show (32 - (i + 1)).succ = 32 - i by omega]
    have hP : 2 ^ (i + 1) = 2 * 2 ^ i := by rw [Nat.pow_succ, Nat.mul_comm]
    have hPQ : 2 * 2 ^ i * 2 ^ (32 - (i + 1)) = 4294967296 := by
      rw [← hP, ← Nat.pow_add, show i + 1 + (32 - (i + 1)) = 32 by omega]
    rw [hQ, hP]
    generalize 2 ^ (32 - (i + 1)) = Q at hPQ
    generalize 2 ^ i = P at hPQ
    have hQ0 : 0 < Q := by
      rcases Nat.eq_zero_or_pos Q with e | e
      · rw [e] at hPQ; simp at hPQ
      · exact e
    -- x = Q * (2 * hi + b) + lo
    have e1 : x % (2 * Q) = x % Q + Q * (x / Q % 2) := by rw [Nat.mul_comm 2 Q, Nat.mod_mul]
    have e2 : x / (2 * Q) = x / Q / 2 := by rw [Nat.mul_comm, Nat.div_div_eq_div_mul]
    rw [e1, e2]
    have hlo : x % Q < Q := Nat.mod_lt _ hQ0
    have hhi : x / Q < 2 * P := by
      rw [Nat.div_lt_iff_lt_mul hQ0]
      omega
    generalize x % Q = lo at hlo
    generalize x / Q = hi at hhi
    have hb : hi % 2 = 0 ∨ hi % 2 = 1 := by omega
    obtain ⟨A, hA⟩ : ∃ A, A = P * lo := ⟨_, rfl⟩
    have hA1 : 2 * A + 2 * P ≤ 4294967296 := by
      have : P * (lo + 1) ≤ P * Q := Nat.mul_le_mul_left _ hlo
      rw [Nat.mul_succ, ← hA] at this
      have h3 : 2 * P * Q = 2 * (P * Q) := Nat.mul_assoc _ _ _
      omega
    have m1 : lo * (2 * P) = 2 * A := by rw [hA, Nat.mul_comm lo, Nat.mul_assoc]
    rw [m1, rot1]
    rcases hb with hb | hb
    · rw [hb, Nat.mul_zero, Nat.add_zero, Nat.mul_comm lo P, ← hA]
      have : 2 * (A + hi / 2) < 4294967296 := by omega
      rw [Nat.mod_eq_of_lt this, Nat.div_eq_of_lt this]
      omega
    · have m2 : (lo + Q * 1) * P = A + Q * P := by rw [Nat.mul_one, Nat.add_mul, hA, Nat.mul_comm lo P]
      have m3 : 2 * (Q * P) = 4294967296 := by rw [← hPQ, Nat.mul_assoc, Nat.mul_comm P Q]
      rw [hb, m2]
      generalize Q * P = QP at m3
      omega
theorem rotT_rot (x i : Nat) (hx : x < 4294967296) (hi : i ≤ 32) : ((rotT x i : Nat) : Int) = rotI (x : Int) (i : Int) := by
  rw [rotT_eq x hx i hi, rotI, Int.toNat_natCast, Int.toNat_natCast]
  congr 1
  by_cases e : i = 32
  · subst e
    simp [Nat.mod_one, Nat.mod_eq_of_lt hx, Nat.shiftRight_eq_div_pow, Nat.div_eq_of_lt hx]
  · have h2 : i % 32 = i := Nat.mod_eq_of_lt (by omega)
    rw [h2, Nat.shiftLeft_eq, Nat.shiftRight_eq_div_pow]
    have h3 : x * 2 ^ i % 4294967296 = (x % 2 ^ (32 - i)) * 2 ^ i := by
      have : (4294967296 : Nat) = 2 ^ (32 - i) * 2 ^ i := by rw [← Nat.pow_add, show 32 - i + i = 32 by omega]
      rw [this, Nat.mul_mod_mul_right]
    rw [h3, ← Nat.shiftLeft_eq]
    refine Nat.shiftLeft_add_eq_or_of_lt ?_ _
    rw [Nat.div_lt_iff_lt_mul (Nat.two_pow_pos _), ← Nat.pow_add, show i + (32 - i) = 32 by omega]
    exact hx
theorem rot1_lt (x : Nat) (h : x < 4294967296) : rot1 x < 4294967296 := by rw [rot1]; omega
theorem rotT_lt (x : Nat) (h : x < 4294967296) : ∀ i, rotT x i < 4294967296
  | 0 => h
  | i + 1 => rot1_lt _ (rotT_lt x h i)
theorem turned_any (x n : Nat) (w : World) (hx : x < 4294967296) (hn : n ≤ 32) :
    Calls Tryz.prog 179 #[.int .i64 (x : Nat), .int .i64 (n : Nat)] w fun e w' => e = .returned (.int .i64 (rotI (x : Int) (n : Int))) ∧ w' = w := by
  go_enter Tryz.func179, Tryz.ntmps179
  go_wp2_with fail
  go_loop [0, 5] (fun v i => ∃ k : Nat, k ≤ n ∧ i = .int .i64 k ∧ v = .int .i64 (rotT x k : Nat)) (fun _ i => n - (intOf i).toNat)
  case atStart => exact ⟨0, by omega, rfl, rfl⟩
  case round =>
    obtain ⟨k, hk, rfl, rfl⟩ := hrel
    by_cases hlt : k < n
    · have hl := rotT_lt x hx k
      have Hs := Lib.hid (show rotT x (k + 1) = 2 * rotT x k % 4294967296 + 2 * rotT x k / 4294967296 from rfl)
      generalize rotT x k = y at hl Hs
      go_wp2_with fail
      go_round
      case rel => exact ⟨k + 1, by omega, by go_num, by rw [Hs.out]; go_num⟩
      case measure => simp [intOf]; omega
    · obtain rfl : k = n := by omega
      have Hf := Lib.hid (rotT_rot x k hx hn)
      go_wp2_with fail
      go_ret
      exact ⟨ret_int Hf.out, rfl⟩
theorem turned1 (x n : Int) (w : World) (hx : Wd x) (h0 : 0 ≤ n) (hn : n ≤ 32) : Calls Tryz.prog 179 #[.int .i64 x, .int .i64 n] w fun e w' => e = .returned (.int .i64 (rotI x n)) ∧ w' = w := by
  obtain ⟨m, rfl, hm⟩ := wd_nat hx
  obtain ⟨k, rfl⟩ := Int.eq_ofNat_of_zero_le h0
  exact turned_any m k w hm (by omega)
theorem sum1 (a b : Int) (w : World) (ha : Wd a) (hb : Wd b) : Calls Tryz.prog 178 #[.int .i64 a, .int .i64 b] w fun e w' => e = .returned (.int .i64 (addI [a, b])) ∧ w' = w := by
  obtain ⟨m, rfl, hm⟩ := wd_nat ha
  obtain ⟨n, rfl, hn⟩ := wd_nat hb
  go_enter Tryz.func178, Tryz.ntmps178
  go_wp2_with fail
  go_ret
  exact ⟨ret_int (by simp [addI]), rfl⟩
theorem is1 (a : Int) (w : World) : Calls Tryz.prog 176 #[.int .i64 a] w fun e w' => e = .returned (.bool (wordB a)) ∧ w' = w := by
  by_cases h : 0 ≤ a
  · have d1 : decide (0 ≤ a) = true := by simpa using h
    go_enter Tryz.func176, Tryz.ntmps176
    go_wp2_with fail
    go_ret
    exact ⟨by rw [wordB, d1]; rfl, rfl⟩
  · have d1 : decide (0 ≤ a) = false := by simpa using h
    go_enter Tryz.func176, Tryz.ntmps176
    go_wp2_with fail
    go_ret
    exact ⟨by rw [wordB, d1]; rfl, rfl⟩
theorem all1 (l : List Int) (A : Option Addr) (n c : Nat) (w : World) (hr : Rd w A (ints l)) (hn : n = l.length) (hl : l.length ≤ 1000) (hw : ∀ x ∈ l, Wd x) : Calls Tryz.prog 158 #[.slice A n c] w fun e w' => e = .returned (.bool true) ∧ w' = w := by
  have HR := Lib.hid hr
  have HN := Lib.hid hn
  have HW := Lib.hid hw
  have hn1 : n ≤ 1000 := by omega
  clear hr hn hw
  go_enter Tryz.func158, Tryz.ntmps158
  go_wp2_with fail
  go_loopw [3] (fun x wr => ∃ i : Nat, i ≤ n ∧ x = .int .i64 (i : Nat) ∧ wr = w) (fun x _ => n - (intOf x).toNat)
  case atStart => exact ⟨0, by omega, rfl, rfl⟩
  case round =>
    obtain ⟨i, hi, rfl, rfl⟩ := hrel
    by_cases hlt : i < n
    · have hil : i < l.length := by rw [← HN.out]; exact hlt
      obtain ⟨b, off, hA, hc⟩ := HR.out.int_at (i := i) hil
      subst hA
      have hwd := HW.out (l.getD i 0) (by rw [List.getD_eq_getElem?_getD, List.getElem?_eq_getElem hil]; exact List.getElem_mem hil)
      generalize l.getD i 0 = a at hc hwd
      have hiI : (i : Int) < (n : Int) := by omega
      have Hwb := Lib.hid (show wordB a = true by obtain ⟨h1, h2⟩ := hwd; simp [wordB, h1, h2])
      go_wp2_with fail
      refine (is1 a _).mono ?_
      rintro e w1 ⟨rfl, rfl⟩
      rw [Hwb.out]
      go_wp2_with fail
      go_roundw
      case rel => exact ⟨i + 1, by omega, by go_num, by trivial⟩
      case measure => simp [intOf]; omega
    · obtain rfl : i = n := by omega
      go_wp2_with fail
      go_ret
      exact ⟨rfl, rfl⟩

/- R01b -/
open Go.RowKit
set_option linter.unusedVariables false
set_option maxRecDepth 100000
set_option maxHeartbeats 600000

theorem or_step (A b k : Nat) (hb : b < 256) : A <<< (k + 8) ||| b <<< k = (A * 256 + b) <<< k := by
  have h : A <<< 8 + b = A <<< 8 ||| b := Nat.shiftLeft_add_eq_or_of_lt (show b < 2 ^ 8 from hb) A
  rw [Nat.add_comm k 8, Nat.shiftLeft_add, ← Nat.shiftLeft_or_distrib, ← h, Nat.shiftLeft_eq A 8]
theorem or_turn (x y z t : Nat) : x ||| y ||| z ||| t = t ||| z ||| y ||| x := by
  rw [Nat.or_comm (x ||| y ||| z) t, Nat.or_comm (x ||| y) z, Nat.or_comm x y, ← Nat.or_assoc, ← Nat.or_assoc]
/-- A word of four bytes, k of them done. -/
def wordN (s : List UInt8) (a : Nat) (high : Bool) : Nat → Nat
  | 0 => 0
  | i + 1 => 256 * wordN s a high i + (s.getD (if high then a + i else a + 3 - i) 0).toNat
theorem wordN_lt (s : List UInt8) (a : Nat) (high : Bool) : ∀ i, wordN s a high i < 256 ^ i
  | 0 => by simp [wordN]
  | i + 1 => by
    have h := wordN_lt s a high i
    have hb := (s.getD (if high then a + i else a + 3 - i) 0).toNat_lt
    rw [wordN, Nat.pow_succ]
    omega
theorem cutAcc_zero (s : List UInt8) (high : Bool) (j : Nat) : ∀ i, i ≤ 4 * j → cutAcc s high i j = 0
  | 0, _ => rfl
  | i + 1, h => by rw [cutAcc, if_neg (by omega), cutAcc_zero s high j i (by omega)]
theorem cutAcc_skip (s : List UInt8) (high : Bool) (j : Nat) : ∀ d, cutAcc s high (4 * j + 4 + d) j = cutAcc s high (4 * j + 4) j
  | 0 => rfl
  | d + 1 => by rw [← Nat.add_assoc, cutAcc, if_neg (by omega), cutAcc_skip s high j d]
theorem cutAcc_word (s : List UInt8) (high : Bool) (j : Nat) (h : 4 * j + 4 ≤ s.length) : cutAcc s high s.length j = wordN s (4 * j) high 4 := by
  obtain ⟨d, hd⟩ : ∃ d, s.length = 4 * j + 4 + d := ⟨s.length - (4 * j + 4), by omega⟩
  rw [hd, cutAcc_skip]
  have z := cutAcc_zero s high j (4 * j) (Nat.le_refl _)
  have b0 := (s.getD (4 * j) 0).toNat_lt
  have b1 := (s.getD (4 * j + 1) 0).toNat_lt
  have b2 := (s.getD (4 * j + 2) 0).toNat_lt
  have b3 := (s.getD (4 * j + 3) 0).toNat_lt
  rw [cutAcc, if_pos (by omega), cutAcc, if_pos (by omega), cutAcc, if_pos (by omega), cutAcc, if_pos (by omega), z, Nat.zero_or]
  rw [show (4 * j + 3) % 4 = 3 by omega, show (4 * j + 2) % 4 = 2 by omega, show (4 * j + 1) % 4 = 1 by omega, show 4 * j % 4 = 0 by omega]
  cases high with
  | true =>
    simp only [placeI, wordN, if_true, Nat.add_zero]
    generalize (s.getD (4 * j) 0).toNat = x0 at b0
    generalize (s.getD (4 * j + 1) 0).toNat = x1 at b1
    generalize (s.getD (4 * j + 2) 0).toNat = x2 at b2
    generalize (s.getD (4 * j + 3) 0).toNat = x3 at b3
    have e1 := or_step x0 x1 16 b1
    have e2 := or_step (x0 * 256 + x1) x2 8 b2
    have e3 := or_step ((x0 * 256 + x1) * 256 + x2) x3 0 b3
    simp only [Nat.reduceAdd, Nat.reduceMul, Nat.reduceSub, Nat.zero_add] at e1 e2 e3 ⊢
    rw [e1, e2, e3, Nat.shiftLeft_zero]
    omega
  | false =>
    simp only [placeI, wordN, Bool.false_eq_true, if_false]
    simp only [show 4 * j + 3 - 0 = 4 * j + 3 by omega, show 4 * j + 3 - 1 = 4 * j + 2 by omega, show 4 * j + 3 - 2 = 4 * j + 1 by omega, show 4 * j + 3 - 3 = 4 * j by omega]
    generalize (s.getD (4 * j) 0).toNat = x0 at b0
    generalize (s.getD (4 * j + 1) 0).toNat = x1 at b1
    generalize (s.getD (4 * j + 2) 0).toNat = x2 at b2
    generalize (s.getD (4 * j + 3) 0).toNat = x3 at b3
    rw [or_turn]
    have e1 := or_step x3 x2 16 b2
    have e2 := or_step (x3 * 256 + x2) x1 8 b1
    have e3 := or_step ((x3 * 256 + x2) * 256 + x1) x0 0 b0
    simp only [Nat.reduceAdd, Nat.reduceMul, Nat.zero_add, Nat.mul_zero] at e1 e2 e3 ⊢
    rw [e1, e2, e3, Nat.shiftLeft_zero]
    omega
theorem str1_at (s : ByteArray) (k : Nat) (h : k < s.size) : s[k] = s.data.toList.getD k 0 := by
  have h2 : k < s.data.size := h
  rw [ByteArray.getElem_eq_getElem_data, List.getD_eq_getElem?_getD, Array.getElem?_toList, Array.getElem?_eq_getElem h2]
  rfl
theorem wrap64_b (x : UInt8) : wrap64 (x.toNat : Int) = (x.toNat : Int) := by
  have := x.toNat_lt
  exact IntWalk.wrap64_in _ ⟨by omega, by omega⟩
theorem word1 (s : ByteArray) (a : Nat) (high : Bool) (w : World) (h : a + 4 ≤ s.size) (hs : s.size ≤ 1000000000) :
    Calls Tryz.prog 85 #[.string s, .int .i64 (a : Int), .bool high] w fun e w' => e = .returned (.int .i64 ((wordN s.data.toList a high 4 : Nat) : Int)) ∧ w' = w := by
  cases high with
  | true =>
    go_enter Tryz.func85, Tryz.ntmps85
    go_wp2_with fail
    go_loop [7, 8] (fun v i => ∃ k : Nat, k ≤ 4 ∧ i = .int .i64 k ∧ v = .int .i64 (wordN s.data.toList a true k : Nat)) (fun _ i => 4 - (intOf i).toNat)
    case atStart => exact ⟨0, by omega, rfl, rfl⟩
    case round =>
      obtain ⟨k, hk, rfl, rfl⟩ := hrel
      by_cases hlt : k < 4
      · have hv := wordN_lt s.data.toList a true k
        have hp : 256 ^ k ≤ 256 ^ 4 := Nat.pow_le_pow_right (by omega) hk
        have Hs := Lib.hid (show wordN s.data.toList a true (k + 1) = 256 * wordN s.data.toList a true k + (s.data.toList.getD (a + k) 0).toNat from rfl)
        obtain ⟨P, hP⟩ : ∃ P, P = a + k := ⟨_, rfl⟩
        have hPe : (a : Int) + (k : Int) = (P : Int) := by omega
        have hPs : (P : Int) < (s.size : Int) := by omega
        have hPn : P < s.size := by omega
        have Hx := Lib.hid (str1_at s P hPn)
        rw [← hP] at Hs
        have hyl := (s.data.toList.getD P 0).toNat_lt
        generalize wordN s.data.toList a true k = v at hv Hs
        clear hP
        have hv2 : v < 4294967296 := by omega
        clear hv hp
        go_wp2_with fail
        rw [Hx.out, wrap64_b]
        generalize s.data.toList.getD P 0 = y at Hs hyl
        rw [IntWalk.wrap64_in (256 * (v : Int) + (y.toNat : Int)) ⟨by omega, by omega⟩]
        go_wp2_with fail
        go_round
        case rel => exact ⟨k + 1, by omega, by go_num, by rw [Hs.out]; go_num⟩
        case measure => simp [intOf]; omega
      · obtain rfl : k = 4 := by omega
        go_wp2_with fail
        go_ret
        exact ⟨rfl, rfl⟩
  | false =>
    go_enter Tryz.func85, Tryz.ntmps85
    go_wp2_with fail
    go_loop [7, 8] (fun v i => ∃ k : Nat, k ≤ 4 ∧ i = .int .i64 k ∧ v = .int .i64 (wordN s.data.toList a false k : Nat)) (fun _ i => 4 - (intOf i).toNat)
    case atStart => exact ⟨0, by omega, rfl, rfl⟩
    case round =>
      obtain ⟨k, hk, rfl, rfl⟩ := hrel
      by_cases hlt : k < 4
      · have hv := wordN_lt s.data.toList a false k
        have hp : 256 ^ k ≤ 256 ^ 4 := Nat.pow_le_pow_right (by omega) hk
        have Hs := Lib.hid (show wordN s.data.toList a false (k + 1) = 256 * wordN s.data.toList a false k + (s.data.toList.getD (a + 3 - k) 0).toNat from rfl)
        obtain ⟨P, hP⟩ : ∃ P, P = a + 3 - k := ⟨_, rfl⟩
        have hPe : (a : Int) + 3 - (k : Int) = (P : Int) := by omega
        have hPs : (P : Int) < (s.size : Int) := by omega
        have hPn : P < s.size := by omega
        have Hx := Lib.hid (str1_at s P hPn)
        rw [← hP] at Hs
        have hyl := (s.data.toList.getD P 0).toNat_lt
        generalize wordN s.data.toList a false k = v at hv Hs
        clear hP
        have hv2 : v < 4294967296 := by omega
        clear hv hp
        go_wp2_with fail
        rw [Hx.out, wrap64_b]
        generalize s.data.toList.getD P 0 = y at Hs hyl
        rw [IntWalk.wrap64_in (256 * (v : Int) + (y.toNat : Int)) ⟨by omega, by omega⟩]
        go_wp2_with fail
        go_round
        case rel => exact ⟨k + 1, by omega, by go_num, by rw [Hs.out]; go_num⟩
        case measure => simp [intOf]; omega
      · obtain rfl : k = 4 := by omega
        go_wp2_with fail
        go_ret
        exact ⟨rfl, rfl⟩
theorem cutL_snoc (s : List UInt8) (high : Bool) (n : Nat) : cutL s high (n + 1) = cutL s high n ++ [((cutAcc s high s.length n : Nat) : Int)] := by simp [cutL, List.range_succ]
theorem cut1 (s : ByteArray) (high : Bool) (n : Nat) (w : World) (hn : s.size = 4 * n) (hs : s.size ≤ 1000000) :
    Calls Tryz.prog 61 #[.string s, .bool high] w fun e w' => ∃ B cap, e = .returned (.tuple #[.slice B n cap, .bool true]) ∧ w'.ownsRow w.heap.size 3 1 (.slice B n cap) n (ints (cutL s.data.toList high n)) ∧ Below w.heap.size w w' := by
  have hm : (s.size : Int).tmod 4 = 0 := by rw [Int.tmod_eq_emod_of_nonneg (by omega)]; omega
  have hm2 : (s.size : Int) % 4 = 0 := by omega
  have Hn := Lib.hid hn
  clear hn
  go_enter Tryz.func61, Tryz.ntmps61
  go_wp2_with fail
  clear hm hm2
  go_loopw [6, 7] (fun v x wr => ∃ (i cap : Nat) (B : Option Addr), i ≤ n ∧ x = .int .i64 ((4 * i : Nat) : Int) ∧ v = .slice B i cap ∧ wr.ownsRow w.heap.size 3 1 v i (ints (cutL s.data.toList high i)) ∧ Below w.heap.size w wr) (fun _ x _ => 4 * n - (intOf x).toNat)
  case atStart => exact ⟨0, 0, none, by omega, rfl, rfl, ⟨rfl, .inl ⟨rfl, rfl⟩⟩, Below.refl _ _⟩
  case round =>
    obtain ⟨i, cap, B, hi, rfl, rfl, ho, hW⟩ := hrel
    have HO := Lib.hid ho
    have HW := Lib.hid hW
    have hn := Hn.out
    by_cases hlt : i < n
    · obtain ⟨P, hP⟩ : ∃ P, P = 4 * i := ⟨_, rfl⟩
      rw [← hP]
      have hPi : (P : Int) < (s.size : Int) := by omega
      have hPb : P ≤ 1000000 := by omega
      have hP4 : P + 4 ≤ s.size := by omega
      have hi9 : i ≤ 1000000 := by omega
      have Hsn := Lib.hid (show cutL s.data.toList high (i + 1) = cutL s.data.toList high i ++ [((wordN s.data.toList P high 4 : Nat) : Int)] by rw [cutL_snoc, cutAcc_word _ _ _ (by rw [len_data]; omega), hP])
      have HP := Lib.hid hP
      clear ho hW hn hP
      go_wp2_with fail
      refine (word1 s P high _ hP4 (by omega)).mono ?_
      rintro e w2 ⟨rfl, rfl⟩
      generalize ((wordN s.data.toList P high 4 : Nat) : Int) = x at Hsn ⊢
      go_wp2_with (at_builtin; refine wpList_append_new (by rfl) (.tmp 18) (.tmp 23) 71 (by rfl) w.heap.size 3 (.int .i64 0) 1 8 Tryz.underlying71 int_info rfl (by omega) w2 _ _ _ _ _ (by rfl) HO.out _ 1 1 (by rfl) (by rfl) (by rfl) (by rfl) (by omega) (by omega) (by omega) (by exact HW.out.size) ?_)
      intro g2 cap2 w3 ho3 hb3 _ _ _
      have HO3 := Lib.hid ho3
      have HW3 := Lib.hid (HW.out.trans hb3)
      clear ho3 hb3
      go_wp2_with fail
      go_roundw
      case rel => exact ⟨i + 1, cap2, some ⟨g2, 0, none⟩, by omega, by have := HP.out; go_num, rfl, by rw [Hsn.out, show ints (cutL s.data.toList high i ++ [x]) = ints (cutL s.data.toList high i) ++ [.int .i64 x] by simp [ints]]; exact HO3.out, HW3.out⟩
      case measure => have := HP.out; simp [intOf]; omega
    · obtain rfl : i = n := by omega
      have hni : ¬ 4 * (i : Int) < (s.size : Int) := by omega
      clear ho hW hn
      go_wp2_with fail
      go_ret2
      exact ⟨B, cap, rfl, HO.out, HW.out⟩

/-- A word's four bytes. -/
def toldL (x : Nat) (high : Bool) : List UInt8 := if high then [UInt8.ofNat (x / 16777216), UInt8.ofNat (x / 65536), UInt8.ofNat (x / 256), UInt8.ofNat x] else [UInt8.ofNat x, UInt8.ofNat (x / 256), UInt8.ofNat (x / 65536), UInt8.ofNat (x / 16777216)]
theorem ofNat_mod (x : Nat) : UInt8.ofNat (x % 256) = UInt8.ofNat x := by
  apply UInt8.toNat_inj.1
  simp
theorem joinL_snoc (xs : List Int) (x : Nat) (high : Bool) : joinL (xs ++ [(x : Int)]) high = joinL xs high ++ toldL x high := by
  apply List.ext_getElem
  · rw [joinL_length, List.length_append, List.length_append, joinL_length]
    cases high <;> simp [toldL] <;> omega
  · intro p h1 h2
    rw [joinL_length, List.length_append] at h1
    simp only [List.length_cons, List.length_nil] at h1
    by_cases c : p < 4 * xs.length
    · rw [List.getElem_append_left (by rw [joinL_length]; exact c)]
      simp only [joinL, List.getElem_map, List.getElem_range, joinB]
      rw [show (xs ++ [(x : Int)]).getD (p / 4) 0 = xs.getD (p / 4) 0 by rw [List.getD_eq_getElem?_getD, List.getElem?_append_left (by omega), List.getD_eq_getElem?_getD]]
    · rw [List.getElem_append_right (by rw [joinL_length]; omega)]
      simp only [joinL_length]
      obtain ⟨r, hr⟩ : ∃ r, p = 4 * xs.length + r := ⟨p - 4 * xs.length, by omega⟩
      subst hr
      have hr4 : r < 4 := by omega
      have hd : (4 * xs.length + r) / 4 = xs.length := by omega
      have hm : (4 * xs.length + r) % 4 = r := by omega
      simp only [joinL, List.getElem_map, List.getElem_range, joinB, hd, hm, ofNat_mod, Nat.shiftRight_eq_div_pow]
      have hg : (xs ++ [(x : Int)]).getD xs.length 0 = (x : Int) := by simp
      rw [hg, Int.toNat_natCast]
      have hs : 4 * xs.length + r - 4 * xs.length = r := by omega
      have hcase : r = 0 ∨ r = 1 ∨ r = 2 ∨ r = 3 := by omega
      cases high <;> rcases hcase with rfl | rfl | rfl | rfl <;> simp [placeI, toldL]
theorem conv4 (a b c d : UInt8) (w : World) (g : Nat) (hg : w.heap.size = g) : (convert 72 9 (.slice (some ⟨g, 0, none⟩) 4 4)).run Tryz.prog (w.alloc (.cells #[.int .u8 (a.toNat : Int), .int .u8 (b.toNat : Int), .int .u8 (c.toNat : Int), .int .u8 (d.toNat : Int)] 5)) = .ok (.string (bs [a, b, c, d])) (w.alloc (.cells #[.int .u8 (a.toNat : Int), .int .u8 (b.toNat : Int), .int .u8 (c.toNat : Int), .int .u8 (d.toNat : Int)] 5)) :=
  conv_rd (l := [a, b, c, d]) (rd_new' w _ _ g hg) 4 4 rfl
theorem byte_of (x : Nat) : ((UInt8.ofNat x).toNat : Int) = ((x % 256 : Nat) : Int) := by simp
theorem told_cells (x : Nat) (hx : x < 4294967296) : ((x : Int) / 16777216) = ((UInt8.ofNat (x / 16777216)).toNat : Int) ∧ ((x : Int) / 65536 % 256) = ((UInt8.ofNat (x / 65536)).toNat : Int) ∧ ((x : Int) / 256 % 256) = ((UInt8.ofNat (x / 256)).toNat : Int) ∧ ((x : Int) % 256) = ((UInt8.ofNat x).toNat : Int) := by
  rw [byte_of, byte_of, byte_of, byte_of]
  refine ⟨?_, ?_, ?_, ?_⟩ <;> omega
theorem told1 (x : Nat) (high : Bool) (w : World) (hx : x < 4294967296) : Calls Tryz.prog 41 #[.int .i64 (x : Int), .bool high] w fun e w' => e = .returned (.string (bs (toldL x high))) ∧ Below w.heap.size w w' := by
  obtain ⟨e1, e2, e3, e4⟩ := told_cells x hx
  cases high with
  | true =>
    have hcv := conv4 (UInt8.ofNat (x / 16777216)) (UInt8.ofNat (x / 65536)) (UInt8.ofNat (x / 256)) (UInt8.ofNat x) w _ rfl
    rw [← e1, ← e2, ← e3, ← e4] at hcv
    clear e1 e2 e3 e4
    go_enter Tryz.func41, Tryz.ntmps41
    go_wp2_with fail
    go_ret
    exact ⟨rfl, (Below.refl _ _).alloc (Nat.le_refl _) _⟩
  | false =>
    have hcv := conv4 (UInt8.ofNat x) (UInt8.ofNat (x / 256)) (UInt8.ofNat (x / 65536)) (UInt8.ofNat (x / 16777216)) w _ rfl
    rw [← e1, ← e2, ← e3, ← e4] at hcv
    clear e1 e2 e3 e4
    go_enter Tryz.func41, Tryz.ntmps41
    go_wp2_with fail
    go_ret
    exact ⟨rfl, (Below.refl _ _).alloc (Nat.le_refl _) _⟩
theorem bs_add (l m : List UInt8) : bs l ++ bs m = bs (l ++ m) := by
  apply ByteArray.ext
  rw [ByteArray.data_append]
  simp [bs]
theorem take_snoc1 {l : List Int} {i : Nat} (h : i < l.length) : l.take (i + 1) = l.take i ++ [l.getD i 0] := by
  rw [List.take_succ_eq_append_getElem h]
  simp [h]
theorem join1 (l : List Int) (A : Option Addr) (n c : Nat) (high : Bool) (w : World) (hr : Rd w A (ints l)) (hn : n = l.length) (hl : l.length ≤ 1000) (hw : ∀ x ∈ l, Wd x) :
    Calls Tryz.prog 137 #[.slice A n c, .bool high] w fun e w' => e = .returned (.tuple #[.string (bs (joinL l high)), .bool true]) ∧ Below w.heap.size w w' := by
  have HR := Lib.hid hr
  have HN := Lib.hid hn
  have HW := Lib.hid hw
  have hn1 : n ≤ 1000 := by omega
  clear hr hn hw
  go_enter Tryz.func137, Tryz.ntmps137
  go_wp2_with fail
  refine (all1 l A n c _ HR.out HN.out hl HW.out).mono ?_
  rintro e w1 ⟨rfl, hw1⟩
  obtain rfl := hw1.symm
  clear hw1
  go_wp2_with fail
  go_loopw [6, 7] (fun s x wr => ∃ i : Nat, i ≤ n ∧ x = .int .i64 (i : Nat) ∧ s = .string (bs (joinL (l.take i) high)) ∧ Below w.heap.size w wr) (fun _ x _ => n - (intOf x).toNat)
  case atStart => exact ⟨0, by omega, rfl, rfl, Below.refl _ _⟩
  case round =>
    obtain ⟨i, hi, rfl, rfl, hb⟩ := hrel
    have HB := Lib.hid hb
    clear hb
    by_cases hlt : i < n
    · have hil : i < l.length := by rw [← HN.out]; exact hlt
      obtain ⟨b, off, hA, hc⟩ := (HR.out.below HB.out).int_at (i := i) hil
      subst hA
      have hwd := HW.out (l.getD i 0) (by rw [List.getD_eq_getElem?_getD, List.getElem?_eq_getElem hil]; exact List.getElem_mem hil)
      have Hsn := Lib.hid (take_snoc1 hil)
      generalize l.getD i 0 = a at hc hwd Hsn
      obtain ⟨m, rfl, hm⟩ := wd_nat hwd
      have Hj := Lib.hid (joinL_snoc (l.take i) m high)
      have hiI : (i : Int) < (n : Int) := by omega
      have hls : (joinL (l.take i) high).length ≤ 4000 := by
        rw [joinL_length, List.length_take]; omega
      generalize joinL (l.take i) high = sofar at Hj hls
      have hsz : ¬ 9223372036854775807 < (bs sofar).size + (bs (toldL m high)).size := by
        have h4 : (toldL m high).length = 4 := by cases high <;> rfl
        rw [bs_size, bs_size, h4]; omega
      clear hwd
      go_wp2_with fail
      refine (told1 m high _ hm).mono ?_
      rintro e w2 ⟨rfl, hb2⟩
      have HB2 := Lib.hid (Below.chain HB.out hb2)
      clear hb2
      go_wp2_with fail
      go_roundw
      case rel => exact ⟨i + 1, by omega, by go_num, by rw [Hsn.out, Hj.out]; first | rw [bs_add] | rfl, HB2.out⟩
      case measure => simp [intOf]; omega
    · obtain rfl : i = n := by omega
      rw [show l.take i = l from List.take_of_length_le (by rw [HN.out]; exact Nat.le_refl _)]
      go_wp2_with fail
      go_ret2
      exact ⟨rfl, HB.out⟩

end Go.Proofs.YtieekajjoikepaaGreatDoor
