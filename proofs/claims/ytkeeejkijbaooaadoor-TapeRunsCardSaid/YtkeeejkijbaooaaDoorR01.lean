/-
  Contracts of keyholeref01 at words: Unlike, Both, Turned, Sum, Is, All.
-/
import Derived.Test.YtkeeejkijbaooaaDoorUnl
namespace Go.Proofs.YtkeeejkijbaooaaDoor
open Go.RowKit
set_option linter.unusedVariables false
set_option maxRecDepth 100000
set_option maxHeartbeats 600000

theorem wd_nat {a : Int} (h : Wd a) : ∃ n : Nat, a = (n : Int) ∧ n < 4294967296 := by
  obtain ⟨h0, h1⟩ := h
  obtain ⟨n, rfl⟩ := Int.eq_ofNat_of_zero_le h0
  exact ⟨n, rfl, by omega⟩
theorem unlike1 (a b : Int) (w : World) (ha : Wd a) (hb : Wd b) : Calls Tryd.prog 96 #[.int .i64 a, .int .i64 b] w fun e w' => e = .returned (.int .i64 (xorI a b)) ∧ w' = w := by
  obtain ⟨m, rfl, hm⟩ := wd_nat ha
  obtain ⟨n, rfl, hn⟩ := wd_nat hb
  exact unlike_any m n w hm hn

def bothTo (a b : Nat) : Nat → Nat
  | 0 => 0
  | i + 1 => bothTo a b i + (if (a / 2 ^ i) % 2 = 1 ∧ (b / 2 ^ i) % 2 = 1 then 2 ^ i else 0)
theorem bothTo_eq (a b : Nat) : ∀ i, bothTo a b i = (a &&& b) % 2 ^ i
  | 0 => by simp [bothTo, Nat.mod_one]
  | i + 1 => by
    have h := Nat.testBit_and a b i
    rw [Nat.testBit_eq_decide_div_mod_eq, Nat.testBit_eq_decide_div_mod_eq, Nat.testBit_eq_decide_div_mod_eq] at h
    rw [bothTo, bothTo_eq a b i, Nat.pow_succ, Nat.mod_mul]
    have h1 : a / 2 ^ i % 2 < 2 := Nat.mod_lt _ (by omega)
    have h2 : b / 2 ^ i % 2 < 2 := Nat.mod_lt _ (by omega)
    have h3 : (a &&& b) / 2 ^ i % 2 < 2 := Nat.mod_lt _ (by omega)
    generalize a / 2 ^ i % 2 = x at h1 h ⊢
    generalize b / 2 ^ i % 2 = y at h2 h ⊢
    generalize (a &&& b) / 2 ^ i % 2 = z at h3 h ⊢
    have hx : x = 0 ∨ x = 1 := by omega
    have hy : y = 0 ∨ y = 1 := by omega
    have hz : z = 0 ∨ z = 1 := by omega
    rcases hx with rfl | rfl <;> rcases hy with rfl | rfl <;> rcases hz with rfl | rfl <;> simp at h ⊢

theorem both_any (a b : Nat) (w : World) (ha : a < 4294967296) (hb : b < 4294967296) :
    Calls Tryd.prog 97 #[.int .i64 (a : Nat), .int .i64 (b : Nat)] w fun e w' => e = .returned (.int .i64 ((a &&& b : Nat) : Int)) ∧ w' = w := by
  go_enter Tryd.func97, Tryd.ntmps97
  go_wp2_with fail
  go_loop [0, 1, 5, 6, 7] (fun x y n p i => ∃ k : Nat, k ≤ 32 ∧ i = .int .i64 k ∧ x = .int .i64 (a / 2 ^ k : Nat) ∧ y = .int .i64 (b / 2 ^ k : Nat) ∧ p = .int .i64 (2 ^ k : Nat) ∧ n = .int .i64 (bothTo a b k : Nat)) (fun _ _ _ _ i => 32 - (intOf i).toNat)
  case atStart => exact ⟨0, by omega, rfl, by simp, by simp, rfl, rfl⟩
  case round =>
    obtain ⟨k, hk, rfl, rfl, rfl, rfl, rfl⟩ := hrel
    have hu : bothTo a b k < 2 ^ k := by rw [bothTo_eq]; exact Nat.mod_lt _ (Nat.two_pow_pos _)
    have hp : 2 ^ k ≤ 2 ^ 32 := Nat.pow_le_pow_right (by omega) hk
    have hx : a / 2 ^ k ≤ a := Nat.div_le_self _ _
    have hy : b / 2 ^ k ≤ b := Nat.div_le_self _ _
    have Hsu := Lib.hid (show bothTo a b (k + 1) = bothTo a b k + (if (a / 2 ^ k) % 2 = 1 ∧ (b / 2 ^ k) % 2 = 1 then 2 ^ k else 0) from rfl)
    have Hx := Lib.hid (show a / 2 ^ (k + 1) = a / 2 ^ k / 2 by rw [Nat.pow_succ, Nat.div_div_eq_div_mul])
    have Hy := Lib.hid (show b / 2 ^ (k + 1) = b / 2 ^ k / 2 by rw [Nat.pow_succ, Nat.div_div_eq_div_mul])
    have Hp := Lib.hid (show 2 ^ (k + 1) = 2 * 2 ^ k by rw [Nat.pow_succ, Nat.mul_comm])
    by_cases hlt : k < 32
    · generalize bothTo a b k = u at hu Hsu
      generalize a / 2 ^ k = x at hx Hx Hsu
      generalize b / 2 ^ k = y at hy Hy Hsu
      generalize 2 ^ k = p at hp hu Hp Hsu
      by_cases h1 : x % 2 = 1
      · have hA : (((x : Int) % 2) == 1) = true := by simp; omega
        by_cases h2 : y % 2 = 1
        · have hB : (((y : Int) % 2) == 1) = true := by simp; omega
          go_wp2_with fail
          go_round
          case rel =>
            refine ⟨k + 1, by omega, by go_num, ?_, ?_, ?_, ?_⟩
            · rw [Hx.out]; go_num
            · rw [Hy.out]; go_num
            · rw [Hp.out]; go_num
            · rw [Hsu.out, if_pos ⟨h1, h2⟩]; go_num
          case measure => simp [intOf]; omega
        · have hB : (((y : Int) % 2) == 1) = false := by simp; omega
          go_wp2_with fail
          go_round
          case rel =>
            refine ⟨k + 1, by omega, by go_num, ?_, ?_, ?_, ?_⟩
            · rw [Hx.out]; go_num
            · rw [Hy.out]; go_num
            · rw [Hp.out]; go_num
            · rw [Hsu.out, if_neg (fun h => h2 h.2)]; go_num
          case measure => simp [intOf]; omega
      · have hA : (((x : Int) % 2) == 1) = false := by simp; omega
        go_wp2_with fail
        go_round
        case rel =>
          refine ⟨k + 1, by omega, by go_num, ?_, ?_, ?_, ?_⟩
          · rw [Hx.out]; go_num
          · rw [Hy.out]; go_num
          · rw [Hp.out]; go_num
          · rw [Hsu.out, if_neg (fun h => h1 h.1)]; go_num
        case measure => simp [intOf]; omega
    · obtain rfl : k = 32 := by omega
      have Hf := Lib.hid (show bothTo a b 32 = a &&& b by
        rw [bothTo_eq, Nat.mod_eq_of_lt]
        exact Nat.and_lt_two_pow _ (by omega))
      clear hu hp hx hy
      go_wp2_with fail
      go_ret
      exact ⟨ret_int (by rw [Hf.out]), rfl⟩
theorem both1 (a b : Int) (w : World) (ha : Wd a) (hb : Wd b) : Calls Tryd.prog 97 #[.int .i64 a, .int .i64 b] w fun e w' => e = .returned (.int .i64 (andI a b)) ∧ w' = w := by
  obtain ⟨m, rfl, hm⟩ := wd_nat ha
  obtain ⟨n, rfl, hn⟩ := wd_nat hb
  exact both_any m n w hm hn

/-- Turned one place. -/
def rot1 (x : Nat) : Nat := 2 * x % 4294967296 + 2 * x / 4294967296
def rotT (x : Nat) : Nat → Nat
  | 0 => x
  | i + 1 => rot1 (rotT x i)
theorem rotT_eq (x : Nat) (hx : x < 4294967296) : ∀ i, i ≤ 32 → rotT x i = (x % 2 ^ (32 - i)) * 2 ^ i + x / 2 ^ (32 - i)
  | 0, _ => by simp [rotT, Nat.mod_eq_of_lt hx, Nat.div_eq_of_lt hx]
  | i + 1, h => by
    rw [rotT, rotT_eq x hx i (by omega)]
    have hQ : 2 ^ (32 - i) = 2 * 2 ^ (32 - (i + 1)) := by rw [← Nat.pow_succ', show (32 - (i + 1)).succ = 32 - i by omega]
    have hP : 2 ^ (i + 1) = 2 * 2 ^ i := by rw [Nat.pow_succ, Nat.mul_comm]
    have hPQ : 2 * 2 ^ i * 2 ^ (32 - (i + 1)) = 4294967296 := by
      rw [← hP, ← Nat.pow_add, show i + 1 + (32 - (i + 1)) = 32 by omega]
    rw [hQ, hP]
    generalize 2 ^ (32 - (i + 1)) = Q at hPQ
    generalize 2 ^ i = P at hPQ
    have hQ0 : 0 < Q := by
      rcases Nat.eq_zero_or_pos Q with e | e
      · rw [e] at hPQ; simp at hPQ
      · exact e
    -- x = Q * (2 * hi + b) + lo
    have e1 : x % (2 * Q) = x % Q + Q * (x / Q % 2) := by rw [Nat.mul_comm 2 Q, Nat.mod_mul]
    have e2 : x / (2 * Q) = x / Q / 2 := by rw [Nat.mul_comm, Nat.div_div_eq_div_mul]
    rw [e1, e2]
    have hlo : x % Q < Q := Nat.mod_lt _ hQ0
    have hhi : x / Q < 2 * P := by
      rw [Nat.div_lt_iff_lt_mul hQ0]
      omega
    generalize x % Q = lo at hlo
    generalize x / Q = hi at hhi
    have hb : hi % 2 = 0 ∨ hi % 2 = 1 := by omega
    obtain ⟨A, hA⟩ : ∃ A, A = P * lo := ⟨_, rfl⟩
    have hA1 : 2 * A + 2 * P ≤ 4294967296 := by
      have : P * (lo + 1) ≤ P * Q := Nat.mul_le_mul_left _ hlo
      rw [Nat.mul_succ, ← hA] at this
      have h3 : 2 * P * Q = 2 * (P * Q) := Nat.mul_assoc _ _ _
      omega
    have m1 : lo * (2 * P) = 2 * A := by rw [hA, Nat.mul_comm lo, Nat.mul_assoc]
    rw [m1, rot1]
    rcases hb with hb | hb
    · rw [hb, Nat.mul_zero, Nat.add_zero, Nat.mul_comm lo P, ← hA]
      have : 2 * (A + hi / 2) < 4294967296 := by omega
      rw [Nat.mod_eq_of_lt this, Nat.div_eq_of_lt this]
      omega
    · have m2 : (lo + Q * 1) * P = A + Q * P := by rw [Nat.mul_one, Nat.add_mul, hA, Nat.mul_comm lo P]
      have m3 : 2 * (Q * P) = 4294967296 := by rw [← hPQ, Nat.mul_assoc, Nat.mul_comm P Q]
      rw [hb, m2]
      generalize Q * P = QP at m3
      omega
theorem rotT_rot (x i : Nat) (hx : x < 4294967296) (hi : i ≤ 32) : ((rotT x i : Nat) : Int) = rotI (x : Int) (i : Int) := by
  rw [rotT_eq x hx i hi, rotI, Int.toNat_natCast, Int.toNat_natCast]
  congr 1
  by_cases e : i = 32
  · subst e
    simp [Nat.mod_one, Nat.mod_eq_of_lt hx, Nat.shiftRight_eq_div_pow, Nat.div_eq_of_lt hx]
  · have h2 : i % 32 = i := Nat.mod_eq_of_lt (by omega)
    rw [h2, Nat.shiftLeft_eq, Nat.shiftRight_eq_div_pow]
    have h3 : x * 2 ^ i % 4294967296 = (x % 2 ^ (32 - i)) * 2 ^ i := by
      have : (4294967296 : Nat) = 2 ^ (32 - i) * 2 ^ i := by rw [← Nat.pow_add, show 32 - i + i = 32 by omega]
      rw [this, Nat.mul_mod_mul_right]
    rw [h3, ← Nat.shiftLeft_eq]
    refine Nat.shiftLeft_add_eq_or_of_lt ?_ _
    rw [Nat.div_lt_iff_lt_mul (Nat.two_pow_pos _), ← Nat.pow_add, show i + (32 - i) = 32 by omega]
    exact hx
theorem rot1_lt (x : Nat) (h : x < 4294967296) : rot1 x < 4294967296 := by rw [rot1]; omega
theorem rotT_lt (x : Nat) (h : x < 4294967296) : ∀ i, rotT x i < 4294967296
  | 0 => h
  | i + 1 => rot1_lt _ (rotT_lt x h i)
theorem turned_any (x n : Nat) (w : World) (hx : x < 4294967296) (hn : n ≤ 32) :
    Calls Tryd.prog 114 #[.int .i64 (x : Nat), .int .i64 (n : Nat)] w fun e w' => e = .returned (.int .i64 (rotI (x : Int) (n : Int))) ∧ w' = w := by
  go_enter Tryd.func114, Tryd.ntmps114
  go_wp2_with fail
  go_loop [0, 5] (fun v i => ∃ k : Nat, k ≤ n ∧ i = .int .i64 k ∧ v = .int .i64 (rotT x k : Nat)) (fun _ i => n - (intOf i).toNat)
  case atStart => exact ⟨0, by omega, rfl, rfl⟩
  case round =>
    obtain ⟨k, hk, rfl, rfl⟩ := hrel
    by_cases hlt : k < n
    · have hl := rotT_lt x hx k
      have Hs := Lib.hid (show rotT x (k + 1) = 2 * rotT x k % 4294967296 + 2 * rotT x k / 4294967296 from rfl)
      generalize rotT x k = y at hl Hs
      go_wp2_with fail
      go_round
      case rel => exact ⟨k + 1, by omega, by go_num, by rw [Hs.out]; go_num⟩
      case measure => simp [intOf]; omega
    · obtain rfl : k = n := by omega
      have Hf := Lib.hid (rotT_rot x k hx hn)
      go_wp2_with fail
      go_ret
      exact ⟨ret_int Hf.out, rfl⟩
theorem turned1 (x n : Int) (w : World) (hx : Wd x) (h0 : 0 ≤ n) (hn : n ≤ 32) : Calls Tryd.prog 114 #[.int .i64 x, .int .i64 n] w fun e w' => e = .returned (.int .i64 (rotI x n)) ∧ w' = w := by
  obtain ⟨m, rfl, hm⟩ := wd_nat hx
  obtain ⟨k, rfl⟩ := Int.eq_ofNat_of_zero_le h0
  exact turned_any m k w hm (by omega)
theorem sum1 (a b : Int) (w : World) (ha : Wd a) (hb : Wd b) : Calls Tryd.prog 113 #[.int .i64 a, .int .i64 b] w fun e w' => e = .returned (.int .i64 (addI [a, b])) ∧ w' = w := by
  obtain ⟨m, rfl, hm⟩ := wd_nat ha
  obtain ⟨n, rfl, hn⟩ := wd_nat hb
  go_enter Tryd.func113, Tryd.ntmps113
  go_wp2_with fail
  go_ret
  exact ⟨ret_int (by simp [addI]), rfl⟩
theorem is1 (a : Int) (w : World) : Calls Tryd.prog 110 #[.int .i64 a] w fun e w' => e = .returned (.bool (wordB a)) ∧ w' = w := by
  by_cases h : 0 ≤ a
  · have d1 : decide (0 ≤ a) = true := by simpa using h
    go_enter Tryd.func110, Tryd.ntmps110
    go_wp2_with fail
    go_ret
    exact ⟨by rw [wordB, d1]; rfl, rfl⟩
  · have d1 : decide (0 ≤ a) = false := by simpa using h
    go_enter Tryd.func110, Tryd.ntmps110
    go_wp2_with fail
    go_ret
    exact ⟨by rw [wordB, d1]; rfl, rfl⟩
theorem all1 (l : List Int) (A : Option Addr) (n c : Nat) (w : World) (hr : Rd w A (ints l)) (hn : n = l.length) (hl : l.length ≤ 1000) (hw : ∀ x ∈ l, Wd x) : Calls Tryd.prog 93 #[.slice A n c] w fun e w' => e = .returned (.bool true) ∧ w' = w := by
  have HR := Lib.hid hr
  have HN := Lib.hid hn
  have HW := Lib.hid hw
  have hn1 : n ≤ 1000 := by omega
  clear hr hn hw
  go_enter Tryd.func93, Tryd.ntmps93
  go_wp2_with fail
  go_loopw [3] (fun x wr => ∃ i : Nat, i ≤ n ∧ x = .int .i64 (i : Nat) ∧ wr = w) (fun x _ => n - (intOf x).toNat)
  case atStart => exact ⟨0, by omega, rfl, rfl⟩
  case round =>
    obtain ⟨i, hi, rfl, rfl⟩ := hrel
    by_cases hlt : i < n
    · have hil : i < l.length := by rw [← HN.out]; exact hlt
      obtain ⟨b, off, hA, hc⟩ := HR.out.int_at (i := i) hil
      subst hA
      have hwd := HW.out (l.getD i 0) (by rw [List.getD_eq_getElem?_getD, List.getElem?_eq_getElem hil]; exact List.getElem_mem hil)
      generalize l.getD i 0 = a at hc hwd
      have hiI : (i : Int) < (n : Int) := by omega
      have Hwb := Lib.hid (show wordB a = true by obtain ⟨h1, h2⟩ := hwd; simp [wordB, h1, h2])
      go_wp2_with fail
      refine (is1 a _).mono ?_
      rintro e w1 ⟨rfl, rfl⟩
      rw [Hwb.out]
      go_wp2_with fail
      go_roundw
      case rel => exact ⟨i + 1, by omega, by go_num, by trivial⟩
      case measure => simp [intOf]; omega
    · obtain rfl : i = n := by omega
      go_wp2_with fail
      go_ret
      exact ⟨rfl, rfl⟩
end Go.Proofs.YtkeeejkijbaooaaDoor
