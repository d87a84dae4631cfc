/-
  keyholelaw01.WordTurns: the law's walk.
-/
import Derived.Test.YtdmppngjmpmigaaWords
namespace Go.Proofs.Ytdmppngjmpmigaa
open Go.RowKit

theorem wordsB2 {a b : Int} : wordsB [a, b] = true ↔ (0 ≤ a ∧ a ≤ 4294967295) ∧ (0 ≤ b ∧ b ≤ 4294967295) := by simp [wordsB, wordB]
theorem wordsB1 {a : Int} : wordsB [a] = true ↔ (0 ≤ a ∧ a ≤ 4294967295) := by simp [wordsB, wordB]
theorem xorI_range {a b : Int} (ha : 0 ≤ a ∧ a ≤ 4294967295) (hb : 0 ≤ b ∧ b ≤ 4294967295) : 0 ≤ xorI a b ∧ xorI a b ≤ 4294967295 := by
  have : a.toNat ^^^ b.toNat < 2 ^ 32 := Nat.xor_lt_two_pow (by omega) (by omega)
  unfold xorI
  omega
theorem andI_range {a b : Int} (ha : 0 ≤ a ∧ a ≤ 4294967295) : 0 ≤ andI a b ∧ andI a b ≤ 4294967295 := by
  have : a.toNat &&& b.toNat ≤ a.toNat := Nat.and_le_left
  unfold andI
  omega
theorem xorI_twice {a b : Int} (ha : 0 ≤ a) : xorI (xorI a b) b = a := by
  unfold xorI
  rw [Int.toNat_natCast, Nat.xor_assoc, Nat.xor_self, Nat.xor_zero]
  omega
theorem and_xor_and (a b : Int) : andI (xorI a (andI a b)) b = 0 := by
  unfold andI xorI
  simp only [Int.toNat_natCast]
  have : (a.toNat ^^^ (a.toNat &&& b.toNat)) &&& b.toNat = 0 := by
    apply Nat.eq_of_testBit_eq
    intro i
    simp only [Nat.testBit_and, Nat.testBit_xor, Nat.zero_testBit]
    cases a.toNat.testBit i <;> cases b.toNat.testBit i <;> rfl
  rw [this]
  rfl
theorem addI_comm (a b : Int) : addI [a, b] = addI [b, a] := by simp [addI, Int.add_comm]
theorem testBit_rot (x s i : Nat) (hs : s < 32) (hx : x < 2 ^ 32) : ((x <<< s) % 2 ^ 32 ||| x >>> (32 - s)).testBit i = (decide (i < 32) && x.testBit (if s ≤ i then i - s else i + 32 - s)) := by
  rw [Nat.testBit_or, Nat.testBit_mod_two_pow, Nat.testBit_shiftLeft, Nat.testBit_shiftRight]
  by_cases h : s ≤ i
  · have h0 : x.testBit (32 - s + i) = false := Nat.testBit_lt_two_pow (Nat.lt_of_lt_of_le hx (Nat.pow_le_pow_right (by omega) (by omega)))
    simp [h, h0]
  · have : 32 - s + i = i + 32 - s := by omega
    have h32 : i < 32 := by omega
    simp [h, this, h32]
theorem rotI_back (x n : Int) (hx : 0 ≤ x ∧ x ≤ 4294967295) (hn : 0 ≤ n ∧ n ≤ 32) : rotI (rotI x n) (32 - n) = x := by
  obtain ⟨x, rfl⟩ := Int.eq_ofNat_of_zero_le hx.1
  obtain ⟨n, rfl⟩ := Int.eq_ofNat_of_zero_le hn.1
  have hx' : x < 2 ^ 32 := by omega
  unfold rotI
  rw [Int.toNat_natCast, Int.toNat_natCast, show ((32 : Int) - (n : Int)).toNat = 32 - n by omega, Int.toNat_natCast]
  rw [show (4294967296 : Nat) = 2 ^ 32 by decide]
  congr 1
  have hs : n % 32 < 32 := by omega
  have ht : (32 - n) % 32 < 32 := by omega
  generalize ht' : (32 - n) % 32 = t at *
  generalize hs' : n % 32 = s at *
  have hst : s + t = 32 ∨ s + t = 0 := by omega
  have hy : ((x <<< s) % 2 ^ 32 ||| x >>> (32 - s)) < 2 ^ 32 := Nat.or_lt_two_pow (Nat.mod_lt _ (by decide)) (Nat.lt_of_le_of_lt (Nat.shiftRight_le _ _) hx')
  apply Nat.eq_of_testBit_eq
  intro i
  rw [testBit_rot _ t i ht hy, testBit_rot x s _ hs hx']
  by_cases hi : i < 32
  · by_cases h1 : t ≤ i
    · rw [if_pos h1]
      have : i - t < 32 := by omega
      simp only [hi, this, decide_true, Bool.true_and]
      congr 1
      split <;> omega
    · rw [if_neg h1]
      have : i + 32 - t < 32 := by omega
      simp only [hi, this, decide_true, Bool.true_and]
      congr 1
      split <;> omega
  · have : x.testBit i = false := Nat.testBit_lt_two_pow (Nat.lt_of_lt_of_le hx' (Nat.pow_le_pow_right (by omega) (by omega)))
    simp [hi, this]

set_option maxHeartbeats 1000000 in
theorem wordTurns_yes (a b n : Int) (w : World) (ha : 0 ≤ a ∧ a ≤ 4294967295) (hb : 0 ≤ b ∧ b ≤ 4294967295) (hn : 0 ≤ n ∧ n ≤ 32) :
    Calls Try.prog 3 #[.int .i64 a, .int .i64 b, .int .i64 n] w fun e w' => e = .returned (.bool true) ∧ Below w.heap.size w w' := by
  have HX := Lib.hid (xorI_range ha hb)
  have HA := Lib.hid (andI_range (b := b) ha)
  have HR := Lib.hid (rotI_range a n ha.1 ha.2)
  have HS := Lib.hid (addI_range [a, b])
  have HQ := Lib.hid (xorI_range ha HA.out)
  go_enter Try.func3, Try.ntmps3
  go_wp2_with fail
  refine (is_b _ _ _ [a, b] _ (rd_new w _ _) rfl (by simp)).mono ?_
  rintro e w1 ⟨rfl, hw⟩
  rw [wordsB2.2 ⟨ha, hb⟩]
  replace hw := Below.chain_alloc (Below.refl _ _) hw
  go_wp2_with fail
  refine (xor_any a b _ (wordsB2.2 ⟨ha, hb⟩)).mono ?_
  rintro e w2 ⟨rfl, hw2⟩
  replace hw := Below.chain hw hw2
  clear hw2
  go_wp2_with fail
  refine (xor_any (xorI a b) b _ (wordsB2.2 ⟨HX.out, hb⟩)).mono ?_
  rintro e w3 ⟨rfl, hw3⟩
  replace hw := Below.chain hw hw3
  clear hw3
  rw [xorI_twice ha.1]
  go_wp2_with fail
  refine (rot_any a n _ (wordsB1.2 ha) hn.1 hn.2).mono ?_
  rintro e w4 ⟨rfl, hw4⟩
  replace hw := Below.chain hw hw4
  clear hw4
  go_wp2_with fail
  refine (rot_any (rotI a n) (32 - n) _ (wordsB1.2 HR.out) (by omega) (by omega)).mono ?_
  rintro e w5 ⟨rfl, hw5⟩
  replace hw := Below.chain hw hw5
  clear hw5
  rw [rotI_back a n ha hn]
  go_wp2_with fail
  refine (add_b _ _ _ [a, b] _ (rd_new w5 _ _) rfl (by simp) (wordsB2.2 ⟨ha, hb⟩)).mono ?_
  rintro e w6 ⟨rfl, hw6⟩
  replace hw := Below.chain_alloc hw hw6
  clear hw6
  go_wp2_with fail
  refine (add_b _ _ _ [b, a] _ (rd_new w6 _ _) rfl (by simp) (wordsB2.2 ⟨hb, ha⟩)).mono ?_
  rintro e w7 ⟨rfl, hw7⟩
  replace hw := Below.chain_alloc hw hw7
  clear hw7
  rw [addI_comm b a]
  go_wp2_with fail
  refine (and_any a b _ (wordsB2.2 ⟨ha, hb⟩)).mono ?_
  rintro e w8 ⟨rfl, hw8⟩
  replace hw := Below.chain hw hw8
  clear hw8
  go_wp2_with fail
  refine (xor_any a (andI a b) _ (wordsB2.2 ⟨ha, HA.out⟩)).mono ?_
  rintro e w9 ⟨rfl, hw9⟩
  replace hw := Below.chain hw hw9
  clear hw9
  go_wp2_with fail
  refine (and_any (xorI a (andI a b)) b _ (wordsB2.2 ⟨HQ.out, hb⟩)).mono ?_
  rintro e w10 ⟨rfl, hw10⟩
  replace hw := Below.chain hw hw10
  clear hw10
  rw [and_xor_and]
  go_wp2_with fail
  refine (words_any _).mono ?_
  rintro e w11 ⟨rfl, hw11⟩
  replace hw := Below.chain hw hw11
  clear hw11
  go_wp2_with fail
  refine (is_b _ _ _ [xorI a b, rotI a n, addI [a, b], andI a b] _ (rd_new w11 _ _) rfl (by simp)).mono ?_
  rintro e w12 ⟨rfl, hw12⟩
  replace hw := Below.chain_alloc hw hw12
  clear hw12
  have hall : wordsB [xorI a b, rotI a n, addI [a, b], andI a b] = true := by
    have h1 := HX.out
    have h2 := HA.out
    have h3 := HR.out
    have h4 := HS.out
    simp [wordsB, wordB, h1, h2, h3, h4.1]
    omega
  rw [hall]
  clear hall
  go_wp2_with fail
  go_ret
  exact ⟨rfl, hw⟩

set_option maxHeartbeats 1000000 in
theorem wordTurns_no (a b n : Int) (w : World) (h : ¬ ((0 ≤ a ∧ a ≤ 4294967295) ∧ (0 ≤ b ∧ b ≤ 4294967295) ∧ (0 ≤ n ∧ n ≤ 32))) :
    Calls Try.prog 3 #[.int .i64 a, .int .i64 b, .int .i64 n] w fun e w' => e = .returned (.bool true) ∧ Below w.heap.size w w' := by
  by_cases hab : (0 ≤ a ∧ a ≤ 4294967295) ∧ (0 ≤ b ∧ b ≤ 4294967295)
  · by_cases hn : n < 0
    · have H := Lib.hid (wordsB2.2 hab)
      clear h hab
      go_enter Try.func3, Try.ntmps3
      go_wp2_with fail
      refine (is_b _ _ _ [a, b] _ (rd_new w _ _) rfl (by simp)).mono ?_
      rintro e w1 ⟨rfl, hw⟩
      rw [H.out]
      replace hw := Below.chain_alloc (Below.refl _ _) hw
      go_wp2_with fail
      refine (words_any _).mono ?_
      rintro e w11 ⟨rfl, hw11⟩
      replace hw := Below.chain hw hw11
      clear hw11
      go_wp2_with fail
      go_ret
      exact ⟨rfl, hw⟩
    · have hn0 : 0 ≤ n := by omega
      have hn1 : 32 < n := by omega
      have H := Lib.hid (wordsB2.2 hab)
      clear h hab hn
      go_enter Try.func3, Try.ntmps3
      go_wp2_with fail
      refine (is_b _ _ _ [a, b] _ (rd_new w _ _) rfl (by simp)).mono ?_
      rintro e w1 ⟨rfl, hw⟩
      rw [H.out]
      replace hw := Below.chain_alloc (Below.refl _ _) hw
      go_wp2_with fail
      refine (words_any _).mono ?_
      rintro e w11 ⟨rfl, hw11⟩
      replace hw := Below.chain hw hw11
      clear hw11
      go_wp2_with fail
      go_ret
      exact ⟨rfl, hw⟩
  · have H := Lib.hid (show wordsB [a, b] = false by
      rw [Bool.eq_false_iff]
      exact fun e => hab (wordsB2.1 e))
    clear h hab
    go_enter Try.func3, Try.ntmps3
    go_wp2_with fail
    refine (is_b _ _ _ [a, b] _ (rd_new w _ _) rfl (by simp)).mono ?_
    rintro e w1 ⟨rfl, hw⟩
    rw [H.out]
    replace hw := Below.chain_alloc (Below.refl _ _) hw
    go_wp2_with fail
    refine (words_any _).mono ?_
    rintro e w11 ⟨rfl, hw11⟩
    replace hw := Below.chain hw hw11
    clear hw11
    go_wp2_with fail
    go_ret
    exact ⟨rfl, hw⟩

theorem wordTurns_law (a b n : Int) (w : World) :
    Calls Try.prog 3 #[.int .i64 a, .int .i64 b, .int .i64 n] w fun e w' => e = .returned (.bool true) ∧ Below w.heap.size w w' := by
  by_cases h : (0 ≤ a ∧ a ≤ 4294967295) ∧ (0 ≤ b ∧ b ≤ 4294967295) ∧ (0 ≤ n ∧ n ≤ 32)
  · exact wordTurns_yes a b n w h.1 h.2.1 h.2.2
  · exact wordTurns_no a b n w h
end Go.Proofs.Ytdmppngjmpmigaa
