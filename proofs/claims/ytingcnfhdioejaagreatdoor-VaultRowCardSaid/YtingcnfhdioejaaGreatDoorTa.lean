/-
  The numbers of package tag, plainly: five parts of 26 digits of base two.
  The digits of a number of package tag, plainly: what is left by P is a row of digits below P.
-/
import Derived.Test.YtingcnfhdioejaaGreatDoorBase
namespace Go.Proofs.YtingcnfhdioejaaGreatDoor
/- TagT -/
set_option linter.unusedVariables false
set_option linter.unusedSimpArgs false

/-- What five parts are worth. -/
def valN (n : List Nat) : Nat := n.getD 0 0 + n.getD 1 0 * 67108864 + n.getD 2 0 * 4503599627370496 + n.getD 3 0 * 302231454903657293676544 + n.getD 4 0 * 20282409603651670423947251286016
def primeP : Nat := 1361129467683753853853498429727072845819
def zero5 : List Nat := [0, 0, 0, 0, 0]
/-- Part j is at most B j. -/
def UpTo (n : List Nat) (B : Nat → Nat) : Prop := ∀ j, n.getD j 0 ≤ B j
theorem getD_set (l : List Nat) (i j x : Nat) (h : i < l.length) : (l.set i x).getD j 0 = if j = i then x else l.getD j 0 := by
  simp only [List.getD_eq_getElem?_getD, List.getElem?_set]
  by_cases e : i = j
  · subst e; simp [h]
  · rw [if_neg e, if_neg (Ne.symm e)]
/-- The parts of the first k digits. -/
def tgReadTo (l : List Nat) : Nat → List Nat
  | 0 => zero5
  | k + 1 =>
    let n := tgReadTo l k
    let x := l.getD k 0 * 2 ^ (8 * k % 26)
    let m := n.set (8 * k / 26) (n.getD (8 * k / 26) 0 + x % 67108864)
    if 8 * k / 26 < 4 then m.set (8 * k / 26 + 1) (m.getD (8 * k / 26 + 1) 0 + x / 67108864) else m
theorem tgReadTo_len (l : List Nat) : ∀ k, (tgReadTo l k).length = 5
  | 0 => rfl
  | k + 1 => by
    unfold tgReadTo
    simp only
    split <;> simp [tgReadTo_len l k]
def readB : Nat → Nat → Nat
  | 0, _ => 0
  | k + 1, j => readB k j + (if j = 8 * k / 26 then 67108864 else 0) + (if j = 8 * k / 26 + 1 then 64 else 0)
theorem readB_le : ∀ k, k ≤ 17 → ∀ j, j < 5 → readB k j ≤ 268435712 := by
  intro k hk j hj
  have h : ((List.range 18).all fun k => (List.range 5).all fun j => decide (readB k j ≤ 268435712)) = true := by decide +kernel
  have h1 := List.all_eq_true.1 h k (by simp; omega)
  have h2 := List.all_eq_true.1 h1 j (by simpa using hj)
  simpa using h2
theorem shl_lt {x k : Nat} (h : x ≤ 255) : x * 2 ^ (8 * k % 26) < 4294967296 := by
  have h1 : 8 * k % 26 ≤ 24 := by omega
  have h2 : 2 ^ (8 * k % 26) ≤ 2 ^ 24 := Nat.pow_le_pow_right (by omega) h1
  have h3 := Nat.mul_le_mul h h2
  omega
theorem tgReadTo_le {l : List Nat} (hl : ∀ x ∈ l, x ≤ 255) : ∀ k, k ≤ 17 → UpTo (tgReadTo l k) (readB k)
  | 0, _ => fun j => by
    show zero5.getD j 0 ≤ 0
    match j with
    | 0 | 1 | 2 | 3 | 4 => exact Nat.le_refl _
    | j + 5 => simp [zero5]
  | k + 1, hk => fun j => by
    have ih := tgReadTo_le hl k (by omega)
    have hx : l.getD k 0 ≤ 255 := by
      rcases Nat.lt_or_ge k l.length with h | h
      · rw [List.getD_eq_getElem?_getD, List.getElem?_eq_getElem h]
        exact hl _ (List.getElem_mem h)
      · rw [List.getD_eq_getElem?_getD, List.getElem?_eq_none h]
        exact Nat.zero_le _
    have hx2 := shl_lt (k := k) hx
    have h5 := tgReadTo_len l k
    have hq : 8 * k / 26 < 5 := by omega
    unfold tgReadTo readB
    simp only
    generalize l.getD k 0 * 2 ^ (8 * k % 26) = x at hx2
    generalize 8 * k / 26 = q at hq
    have i1 := ih j
    have i2 := ih q
    have i3 := ih (q + 1)
    have m1 : x % 67108864 < 67108864 := Nat.mod_lt _ (by omega)
    have m2 : x / 67108864 < 64 := by omega
    split
    · rw [getD_set _ _ _ _ (by simp [h5]; omega), getD_set _ _ _ _ (by omega), getD_set _ _ _ _ (by omega)]
      by_cases e1 : j = q + 1
      · subst e1
        rw [if_pos rfl, if_neg (by omega), if_neg (by omega), if_pos rfl]
        omega
      · rw [if_neg e1, if_neg e1]
        by_cases e2 : j = q
        · subst e2
          rw [if_pos rfl, if_pos rfl]
          omega
        · rw [if_neg e2, if_neg e2]
          omega
    · rw [getD_set _ _ _ _ (by omega)]
      by_cases e2 : j = q
      · subst e2
        rw [if_pos rfl, if_pos rfl]
        omega
      · rw [if_neg e2, if_neg e2]
        omega
/-- Sums of the first k parts. -/
def plusTo (n m : List Nat) : Nat → List Nat
  | 0 => n
  | k + 1 => (plusTo n m k).set k ((plusTo n m k).getD k 0 + m.getD k 0)
theorem plusTo_len (n m : List Nat) : ∀ k, (plusTo n m k).length = n.length
  | 0 => rfl
  | k + 1 => by rw [plusTo, List.length_set, plusTo_len n m k]
theorem plusTo_at (n m : List Nat) (hn : n.length = 5) : ∀ k, k ≤ 5 → ∀ j, (plusTo n m k).getD j 0 = if j < k then n.getD j 0 + m.getD j 0 else n.getD j 0
  | 0, _, j => by simp [plusTo]
  | k + 1, hk, j => by
    have ih := plusTo_at n m hn k (by omega)
    rw [plusTo, getD_set _ _ _ _ (by rw [plusTo_len, hn]; omega)]
    by_cases e : j = k
    · subst e
      rw [if_pos rfl, if_pos (by omega), ih j, if_neg (by omega)]
    · rw [if_neg e, ih j]
      by_cases h : j < k
      · rw [if_pos h, if_pos (by omega)]
      · rw [if_neg h, if_neg (by omega)]
/-- One product more. -/
def timesAt (n m t : List Nat) (i k : Nat) : List Nat := t.set ((i + k) % 5) (t.getD ((i + k) % 5) 0 + n.getD i 0 * m.getD k 0 * (if 5 ≤ i + k then 5 else 1))
def timesIn (n m t : List Nat) (i : Nat) : Nat → List Nat
  | 0 => t
  | k + 1 => timesAt n m (timesIn n m t i k) i k
def tgTimesTo (n m : List Nat) : Nat → List Nat
  | 0 => zero5
  | i + 1 => timesIn n m (tgTimesTo n m i) i 5
theorem timesIn_len (n m t : List Nat) (i : Nat) : ∀ k, (timesIn n m t i k).length = t.length
  | 0 => rfl
  | k + 1 => by rw [timesIn, timesAt, List.length_set, timesIn_len n m t i k]
theorem tgTimesTo_len (n m : List Nat) : ∀ i, (tgTimesTo n m i).length = 5
  | 0 => rfl
  | i + 1 => by rw [tgTimesTo, timesIn_len, tgTimesTo_len n m i]
/-- How many products part j has had. -/
def cntIn (c : Nat → Nat) (i : Nat) : Nat → Nat → Nat
  | 0, j => c j
  | k + 1, j => cntIn c i k j + if j = (i + k) % 5 then 1 else 0
theorem timesIn_le {n m t : List Nat} {c : Nat → Nat} {M : Nat} (ht : t.length = 5) (hM : ∀ i k, n.getD i 0 * m.getD k 0 ≤ M) (i : Nat) (hc : ∀ j, t.getD j 0 ≤ c j * (5 * M)) : ∀ k j, (timesIn n m t i k).getD j 0 ≤ cntIn c i k j * (5 * M)
  | 0, j => hc j
  | k + 1, j => by
    have ih := timesIn_le ht hM i hc k
    have hq : (i + k) % 5 < 5 := Nat.mod_lt _ (by omega)
    rw [timesIn, timesAt, getD_set _ _ _ _ (by rw [timesIn_len, ht]; exact hq), cntIn]
    by_cases e : j = (i + k) % 5
    · rw [if_pos e, if_pos e, ← e]
      have h1 := hM i k
      have h2 := ih j
      have h3 : n.getD i 0 * m.getD k 0 * (if 5 ≤ i + k then 5 else 1) ≤ 5 * M := by
        split
        · omega
        · omega
      rw [Nat.add_mul, Nat.one_mul]
      omega
    · rw [if_neg e, if_neg e]
      exact ih j
def cntTo : Nat → Nat → Nat
  | 0, _ => 0
  | i + 1, j => cntIn (cntTo i) i 5 j
theorem tgTimesTo_le {n m : List Nat} {M : Nat} (hM : ∀ i k, n.getD i 0 * m.getD k 0 ≤ M) : ∀ i j, (tgTimesTo n m i).getD j 0 ≤ cntTo i j * (5 * M)
  | 0, j => by
    show zero5.getD j 0 ≤ _
    match j with
    | 0 | 1 | 2 | 3 | 4 => exact Nat.zero_le _
    | j + 5 => simp [zero5]
  | i + 1, j => timesIn_le (tgTimesTo_len n m i) hM i (tgTimesTo_le hM i) 5 j
theorem cntIn_le : ∀ i, i < 5 → ∀ k, k ≤ 5 → ∀ j, j < 5 → cntIn (cntTo i) i k j ≤ 5 := by
  intro i hi k hk j hj
  have h : ((List.range 5).all fun i => (List.range 6).all fun k => (List.range 5).all fun j => decide (cntIn (cntTo i) i k j ≤ 5)) = true := by decide +kernel
  have h0 := List.all_eq_true.1 h i (by simpa using hi)
  have h1 := List.all_eq_true.1 h0 k (by simp; omega)
  have h2 := List.all_eq_true.1 h1 j (by simpa using hj)
  simpa using h2
/-- One pass of the carries over the first k parts: what is carried, and the parts. -/
def passTo (n : List Nat) : Nat → Nat × List Nat
  | 0 => (0, n)
  | k + 1 => (((passTo n k).2.getD k 0 + (passTo n k).1) / 67108864, (passTo n k).2.set k (((passTo n k).2.getD k 0 + (passTo n k).1) % 67108864))
def passN (n : List Nat) : List Nat := (passTo n 5).2.set 0 ((passTo n 5).2.getD 0 0 + 5 * (passTo n 5).1)
theorem five {n : List Nat} (h : n.length = 5) : ∃ a b c d e, n = [a, b, c, d, e] := by
  match n, h with
  | [a, b, c, d, e], _ => exact ⟨a, b, c, d, e, rfl⟩
theorem passTo_len (n : List Nat) : ∀ k, (passTo n k).2.length = n.length
  | 0 => rfl
  | k + 1 => by rw [passTo]; simp [passTo_len n k]
theorem passN_len (n : List Nat) : (passN n).length = n.length := by rw [passN, List.length_set, passTo_len]
/-- A pass keeps what the parts are worth, by P; the carry is what was beyond. -/
theorem passN_val {n : List Nat} (h : n.length = 5) : valN n + 5 * (passTo n 5).1 = valN (passN n) + (passTo n 5).1 * 1361129467683753853853498429727072845824 := by
  obtain ⟨a, b, c, d, e, rfl⟩ := five h
  simp only [passN, passTo, valN, List.getD_cons_zero, List.getD_cons_succ, List.set_cons_zero, List.set_cons_succ]
  omega
theorem passN_in {n : List Nat} (h : n.length = 5) : (passN n).getD 0 0 < 67108864 + 5 * (passTo n 5).1 ∧ (passN n).getD 1 0 < 67108864 ∧ (passN n).getD 2 0 < 67108864 ∧ (passN n).getD 3 0 < 67108864 ∧ (passN n).getD 4 0 < 67108864 := by
  obtain ⟨a, b, c, d, e, rfl⟩ := five h
  simp only [passN, passTo, List.getD_cons_zero, List.getD_cons_succ, List.set_cons_zero, List.set_cons_succ]
  omega
/-- Parts that are not too great. -/
def fitN (n : List Nat) : Prop := n.getD 0 0 ≤ 4611686018427387904 ∧ n.getD 1 0 ≤ 4611686018427387904 ∧ n.getD 2 0 ≤ 4611686018427387904 ∧ n.getD 3 0 ≤ 4611686018427387904 ∧ n.getD 4 0 ≤ 4611686018427387904
theorem passTo_le {n : List Nat} (h : n.length = 5) (hf : fitN n) : ∀ k, k ≤ 5 → (passTo n k).1 ≤ 137438953472 ∧ fitN (passTo n k).2 := by
  obtain ⟨a, b, c, d, e, rfl⟩ := five h
  simp only [fitN, List.getD_cons_zero, List.getD_cons_succ] at hf
  intro k hk
  match k, hk with
  | 0, _ => simp only [passTo, fitN, List.getD_cons_zero, List.getD_cons_succ]; omega
  | 1, _ => simp only [passTo, fitN, List.getD_cons_zero, List.getD_cons_succ, List.set_cons_zero, List.set_cons_succ]; omega
  | 2, _ => simp only [passTo, fitN, List.getD_cons_zero, List.getD_cons_succ, List.set_cons_zero, List.set_cons_succ]; omega
  | 3, _ => simp only [passTo, fitN, List.getD_cons_zero, List.getD_cons_succ, List.set_cons_zero, List.set_cons_succ]; omega
  | 4, _ => simp only [passTo, fitN, List.getD_cons_zero, List.getD_cons_succ, List.set_cons_zero, List.set_cons_succ]; omega
  | 5, _ => simp only [passTo, fitN, List.getD_cons_zero, List.getD_cons_succ, List.set_cons_zero, List.set_cons_succ]; omega
theorem fitN_get {n : List Nat} (hf : fitN n) (i : Nat) (hi : i < 5) : n.getD i 0 ≤ 4611686018427387904 := by
  match i, hi with
  | 0, _ => exact hf.1
  | 1, _ => exact hf.2.1
  | 2, _ => exact hf.2.2.1
  | 3, _ => exact hf.2.2.2.1
  | 4, _ => exact hf.2.2.2.2
theorem passN_fit {n : List Nat} (h : n.length = 5) (hf : fitN n) : fitN (passN n) := by
  have h1 := passN_in h
  have h2 := (passTo_le h hf 5 (by omega)).1
  unfold fitN
  omega
theorem passN_less {n : List Nat} (h : n.length = 5) (ho : (passTo n 5).1 ≠ 0) : valN (passN n) < valN n := by
  have := passN_val h
  omega
theorem passN_mod {n : List Nat} (h : n.length = 5) : valN (passN n) % primeP = valN n % primeP := by
  have e := passN_val h
  have e2 : valN n = valN (passN n) + primeP * (passTo n 5).1 := by unfold primeP; omega
  rw [e2, Nat.add_mul_mod_self_left]
/-- The parts of a number. -/
def partsOf (v : Nat) : List Nat := [v % 67108864, v / 67108864 % 67108864, v / 4503599627370496 % 67108864, v / 302231454903657293676544 % 67108864, v / 20282409603651670423947251286016 % 67108864]
/-- Are the parts within bounds? -/
def lowN (n : List Nat) : Prop := n.getD 0 0 < 67108864 ∧ n.getD 1 0 < 67108864 ∧ n.getD 2 0 < 67108864 ∧ n.getD 3 0 < 67108864 ∧ n.getD 4 0 < 67108864
theorem parts_val {n : List Nat} (h : n.length = 5) (hl : lowN n) : partsOf (valN n) = n ∧ valN n < 1361129467683753853853498429727072845824 := by
  obtain ⟨a, b, c, d, e, rfl⟩ := five h
  simp only [lowN, List.getD_cons_zero, List.getD_cons_succ] at hl
  simp only [partsOf, valN, List.getD_cons_zero, List.getD_cons_succ, List.cons.injEq, and_true]
  omega
def topB (n : List Nat) : Bool := decide (67108859 ≤ n.getD 0 0) && (n.getD 1 0 == 67108863) && (n.getD 2 0 == 67108863) && (n.getD 3 0 == 67108863) && (n.getD 4 0 == 67108863)
theorem top_val {n : List Nat} (h : n.length = 5) (hl : lowN n) : topB n = decide (primeP ≤ valN n) := by
  obtain ⟨a, b, c, d, e, rfl⟩ := five h
  simp only [lowN, List.getD_cons_zero, List.getD_cons_succ] at hl
  rw [Bool.eq_iff_iff]
  simp only [topB, primeP, valN, List.getD_cons_zero, List.getD_cons_succ, Bool.and_eq_true, decide_eq_true_eq, beq_iff_eq]
  constructor
  · intro h; omega
  · intro h; omega
/-- What is left of a number by P. -/
def leftN (n : List Nat) : List Nat := partsOf (valN n % primeP)
theorem left_top {n : List Nat} (h : n.length = 5) (hl : lowN n) (ht : topB n = true) : [n.getD 0 0 - 67108859, 0, 0, 0, 0] = leftN n := by
  obtain ⟨a, b, c, d, e, rfl⟩ := five h
  simp only [lowN, List.getD_cons_zero, List.getD_cons_succ] at hl
  simp only [topB, List.getD_cons_zero, List.getD_cons_succ, Bool.and_eq_true, decide_eq_true_eq, beq_iff_eq] at ht
  have hv : valN [a, b, c, d, e] % primeP = a - 67108859 := by
    simp only [primeP, valN, List.getD_cons_zero, List.getD_cons_succ]
    omega
  rw [leftN, hv]
  simp only [partsOf, List.getD_cons_zero, List.cons.injEq, and_true]
  omega
theorem left_low {n : List Nat} (h : n.length = 5) (hl : lowN n) (ht : topB n = false) : n = leftN n := by
  have h1 := (parts_val h hl).1
  rw [top_val h hl] at ht
  have h2 : valN n < primeP := by simpa using ht
  rw [leftN, Nat.mod_eq_of_lt h2, h1]
theorem left_len (n : List Nat) : (leftN n).length = 5 := rfl

/- TagT2 -/
set_option linter.unusedVariables false
set_option linter.unusedSimpArgs false

/-- Digit i of base 256. -/
def digN (n : List Nat) (i : Nat) : Nat := (if 8 * i / 26 < 4 then n.getD (8 * i / 26) 0 / 2 ^ (8 * i % 26) ||| n.getD (8 * i / 26 + 1) 0 * 2 ^ (26 - 8 * i % 26) else n.getD (8 * i / 26) 0 / 2 ^ (8 * i % 26)) % 256
def digL (n : List Nat) : List Nat := (List.range 17).map (digN n)
theorem digL_len (n : List Nat) : (digL n).length = 17 := by simp [digL]
theorem digL_get (n : List Nat) (i : Nat) (h : i < 17) : (digL n).getD i 0 = digN n i := by simp [digL, h]
theorem digN_le (n : List Nat) (i : Nat) : digN n i ≤ 255 := by
  have : digN n i < 256 := Nat.mod_lt _ (by omega)
  omega
theorem digL_le (n : List Nat) : ∀ x ∈ digL n, x ≤ 255 := by
  intro x hx
  obtain ⟨i, _, rfl⟩ := List.mem_map.1 hx
  exact digN_le n i
theorem tgOr_add {x s : Nat} (y : Nat) (h : x < 2 ^ s) : x ||| y * 2 ^ s = x + y * 2 ^ s := by
  have := Nat.two_pow_add_eq_or_of_lt h y
  rw [Nat.or_comm, Nat.mul_comm y, ← this, Nat.add_comm]
/-- A row of digits, of a number below P. -/
def tgRowP (l : List Nat) : Prop := l.length = 17 ∧ (∀ x ∈ l, x ≤ 255) ∧ (l.getD 16 0 < 3 ∨ l.getD 16 0 = 3 ∧ ((∃ i, 1 ≤ i ∧ i ≤ 15 ∧ l.getD i 0 < 255) ∨ l.getD 0 0 < 251))
theorem dig_low {a b c d e : Nat} (ha : a < 67108864) (hb : b < 67108864) (hc : c < 67108864) (hd : d < 67108864) (he : e < 67108864) :
    digN [a, b, c, d, e] 0 = a % 256 ∧ digN [a, b, c, d, e] 1 = a / 256 % 256 ∧ digN [a, b, c, d, e] 2 = a / 65536 % 256 ∧ digN [a, b, c, d, e] 3 = (a / 16777216 + b * 4) % 256 ∧
    digN [a, b, c, d, e] 4 = b / 64 % 256 ∧ digN [a, b, c, d, e] 5 = b / 16384 % 256 ∧ digN [a, b, c, d, e] 6 = (b / 4194304 + c * 16) % 256 ∧
    digN [a, b, c, d, e] 7 = c / 16 % 256 ∧ digN [a, b, c, d, e] 8 = c / 4096 % 256 ∧ digN [a, b, c, d, e] 9 = (c / 1048576 + d * 64) % 256 ∧
    digN [a, b, c, d, e] 10 = d / 4 % 256 ∧ digN [a, b, c, d, e] 11 = d / 1024 % 256 ∧ digN [a, b, c, d, e] 12 = d / 262144 % 256 ∧
    digN [a, b, c, d, e] 13 = e % 256 ∧ digN [a, b, c, d, e] 14 = e / 256 % 256 ∧ digN [a, b, c, d, e] 15 = e / 65536 % 256 ∧ digN [a, b, c, d, e] 16 = e / 16777216 := by
  have o0 := tgOr_add (x := a / 1) (s := 26) b (by omega)
  have o1 := tgOr_add (x := a / 256) (s := 18) b (by omega)
  have o2 := tgOr_add (x := a / 65536) (s := 10) b (by omega)
  have o3 := tgOr_add (x := a / 16777216) (s := 2) b (by omega)
  have o4 := tgOr_add (x := b / 64) (s := 20) c (by omega)
  have o5 := tgOr_add (x := b / 16384) (s := 12) c (by omega)
  have o6 := tgOr_add (x := b / 4194304) (s := 4) c (by omega)
  have o7 := tgOr_add (x := c / 16) (s := 22) d (by omega)
  have o8 := tgOr_add (x := c / 4096) (s := 14) d (by omega)
  have o9 := tgOr_add (x := c / 1048576) (s := 6) d (by omega)
  have o10 := tgOr_add (x := d / 4) (s := 24) e (by omega)
  have o11 := tgOr_add (x := d / 1024) (s := 16) e (by omega)
  have o12 := tgOr_add (x := d / 262144) (s := 8) e (by omega)
  have g0 : digN [a, b, c, d, e] 0 = (a / 1 ||| b * 2 ^ 26) % 256 := rfl
  have g1 : digN [a, b, c, d, e] 1 = (a / 256 ||| b * 2 ^ 18) % 256 := rfl
  have g2 : digN [a, b, c, d, e] 2 = (a / 65536 ||| b * 2 ^ 10) % 256 := rfl
  have g3 : digN [a, b, c, d, e] 3 = (a / 16777216 ||| b * 2 ^ 2) % 256 := rfl
  have g4 : digN [a, b, c, d, e] 4 = (b / 64 ||| c * 2 ^ 20) % 256 := rfl
  have g5 : digN [a, b, c, d, e] 5 = (b / 16384 ||| c * 2 ^ 12) % 256 := rfl
  have g6 : digN [a, b, c, d, e] 6 = (b / 4194304 ||| c * 2 ^ 4) % 256 := rfl
  have g7 : digN [a, b, c, d, e] 7 = (c / 16 ||| d * 2 ^ 22) % 256 := rfl
  have g8 : digN [a, b, c, d, e] 8 = (c / 4096 ||| d * 2 ^ 14) % 256 := rfl
  have g9 : digN [a, b, c, d, e] 9 = (c / 1048576 ||| d * 2 ^ 6) % 256 := rfl
  have g10 : digN [a, b, c, d, e] 10 = (d / 4 ||| e * 2 ^ 24) % 256 := rfl
  have g11 : digN [a, b, c, d, e] 11 = (d / 1024 ||| e * 2 ^ 16) % 256 := rfl
  have g12 : digN [a, b, c, d, e] 12 = (d / 262144 ||| e * 2 ^ 8) % 256 := rfl
  have g13 : digN [a, b, c, d, e] 13 = (e / 1) % 256 := rfl
  have g14 : digN [a, b, c, d, e] 14 = e / 256 % 256 := rfl
  have g15 : digN [a, b, c, d, e] 15 = e / 65536 % 256 := rfl
  have g16 : digN [a, b, c, d, e] 16 = e / 16777216 % 256 := rfl
  rw [g0, g1, g2, g3, g4, g5, g6, g7, g8, g9, g10, g11, g12, g13, g14, g15, g16, o0, o1, o2, o3, o4, o5, o6, o7, o8, o9, o10, o11, o12]
  clear o0 o1 o2 o3 o4 o5 o6 o7 o8 o9 o10 o11 o12 g0 g1 g2 g3 g4 g5 g6 g7 g8 g9 g10 g11 g12 g13 g14 g15 g16
  refine ⟨?_, ?_, ?_, ?_, ?_, ?_, ?_, ?_, ?_, ?_, ?_, ?_, ?_, ?_, ?_, ?_, ?_⟩ <;> omega
theorem row_left (n : List Nat) : tgRowP (digL (leftN n)) := by
  refine ⟨digL_len _, digL_le _, ?_⟩
  rw [digL_get _ 16 (by omega), digL_get _ 0 (by omega)]
  have hv : valN n % primeP < primeP := Nat.mod_lt _ (by decide)
  unfold leftN
  generalize valN n % primeP = v at hv
  have ha : v % 67108864 < 67108864 := Nat.mod_lt _ (by omega)
  have hb : v / 67108864 % 67108864 < 67108864 := Nat.mod_lt _ (by omega)
  have hc : v / 4503599627370496 % 67108864 < 67108864 := Nat.mod_lt _ (by omega)
  have hd : v / 302231454903657293676544 % 67108864 < 67108864 := Nat.mod_lt _ (by omega)
  have he : v / 20282409603651670423947251286016 % 67108864 < 67108864 := Nat.mod_lt _ (by omega)
  have hs : v = v % 67108864 + v / 67108864 % 67108864 * 67108864 + v / 4503599627370496 % 67108864 * 4503599627370496 + v / 302231454903657293676544 % 67108864 * 302231454903657293676544 + v / 20282409603651670423947251286016 % 67108864 * 20282409603651670423947251286016 := by
    unfold primeP at hv
    omega
  unfold partsOf
  generalize v % 67108864 = a at *
  generalize v / 67108864 % 67108864 = b at *
  generalize v / 4503599627370496 % 67108864 = c at *
  generalize v / 302231454903657293676544 % 67108864 = d at *
  generalize v / 20282409603651670423947251286016 % 67108864 = e at *
  have hg := fun i h => digL_get [a, b, c, d, e] i h
  obtain ⟨g0, g1, g2, g3, g4, g5, g6, g7, g8, g9, g10, g11, g12, g13, g14, g15, g16⟩ := dig_low ha hb hc hd he
  by_cases h16 : e / 16777216 < 3
  · exact .inl (by rw [g16]; exact h16)
  · refine .inr ⟨by rw [g16]; omega, ?_⟩
    by_cases hex : ∃ i, 1 ≤ i ∧ i ≤ 15 ∧ (digL [a, b, c, d, e]).getD i 0 < 255
    · exact .inl hex
    · refine .inr ?_
      have hf : ∀ i, 1 ≤ i → i ≤ 15 → digN [a, b, c, d, e] i = 255 := fun i h1 h2 => by
        have h3 := digN_le [a, b, c, d, e] i
        have h4 : ¬ digN [a, b, c, d, e] i < 255 := fun h => hex ⟨i, h1, h2, by rw [hg i (by omega)]; exact h⟩
        omega
      have f1 := (g1.symm.trans (hf 1 (by omega) (by omega)))
      have f2 := (g2.symm.trans (hf 2 (by omega) (by omega)))
      have f3 := (g3.symm.trans (hf 3 (by omega) (by omega)))
      have f4 := (g4.symm.trans (hf 4 (by omega) (by omega)))
      have f5 := (g5.symm.trans (hf 5 (by omega) (by omega)))
      have f6 := (g6.symm.trans (hf 6 (by omega) (by omega)))
      have f7 := (g7.symm.trans (hf 7 (by omega) (by omega)))
      have f8 := (g8.symm.trans (hf 8 (by omega) (by omega)))
      have f9 := (g9.symm.trans (hf 9 (by omega) (by omega)))
      have f10 := (g10.symm.trans (hf 10 (by omega) (by omega)))
      have f11 := (g11.symm.trans (hf 11 (by omega) (by omega)))
      have f12 := (g12.symm.trans (hf 12 (by omega) (by omega)))
      have f13 := (g13.symm.trans (hf 13 (by omega) (by omega)))
      have f14 := (g14.symm.trans (hf 14 (by omega) (by omega)))
      have f15 := (g15.symm.trans (hf 15 (by omega) (by omega)))
      rw [g0]
      clear g0 g1 g2 g3 g4 g5 g6 g7 g8 g9 g10 g11 g12 g13 g14 g15 g16 hg hf hex
      have e1 : e = 67108863 := by clear f1 f2 f3 f4 f5 f6 f7 f8 f9 f10 f11 f12 hs; omega
      have d1 : d = 67108863 ∧ c / 1048576 = 63 := by clear f1 f2 f3 f4 f5 f6 f7 f8 f13 f14 f15 hs; omega
      have c1 : c = 67108863 ∧ b / 4194304 = 15 := by obtain ⟨_, h⟩ := d1; clear f1 f2 f3 f4 f5 f9 f10 f11 f12 f13 f14 f15 hs; omega
      have b1 : b = 67108863 ∧ a / 16777216 = 3 := by obtain ⟨_, h⟩ := c1; clear f1 f2 f6 f7 f8 f9 f10 f11 f12 f13 f14 f15 hs; omega
      obtain ⟨rfl, _⟩ := d1
      obtain ⟨rfl, _⟩ := c1
      obtain ⟨rfl, h3⟩ := b1
      subst e1
      unfold primeP at hv
      clear f3 f4 f5 f6 f7 f8 f9 f10 f11 f12 f13 f14 f15
      omega

end Go.Proofs.YtingcnfhdioejaaGreatDoor
