/-
  The numbers of package tag, plainly: five parts of 26 digits of base two. The digits of a number of package tag, plainly: what is left by P is a row of digits below P.
  Contracts of package tag: numbers. Contract of tag.number.left: what is left of a number by P. Contracts of tag.number.digits, tag.isRow. Contracts of tag.Clamp, tag.digitsOf. Contract of tag.Step. Contract of tag.parts: a text, sixteen bytes by sixteen. Contract of tag.Tag: sixteen bytes of a text, by a key.
-/
import Derived.Test.YtieekajjoikepaaGreatDoorBase
import Derived.Test.YtieekajjoikepaaGreatDoorWd
import Derived.Test.YtieekajjoikepaaGreatDoorTxt
import Derived.Deep.CutRange
import Derived.Deep.LoopGhost
import Derived.Test.YtieekajjoikepaaGreatDoorSm
import Derived.Lib.JoinLaws
namespace Go.Proofs.YtieekajjoikepaaGreatDoor
/- Ta -/
/- TagT -/
set_option linter.unusedVariables false
set_option linter.unusedSimpArgs false

/-- What five parts are worth. -/
def valN (n : List Nat) : Nat := n.getD 0 0 + n.getD 1 0 * 67108864 + n.getD 2 0 * 4503599627370496 + n.getD 3 0 * 302231454903657293676544 + n.getD 4 0 * 20282409603651670423947251286016
def primeP : Nat := 1361129467683753853853498429727072845819
def zero5 : List Nat := [0, 0, 0, 0, 0]
/-- Part j is at most B j. -/
def UpTo (n : List Nat) (B : Nat → Nat) : Prop := ∀ j, n.getD j 0 ≤ B j
theorem getD_set (l : List Nat) (i j x : Nat) (h : i < l.length) : (l.set i x).getD j 0 = if j = i then x else l.getD j 0 := by
  simp only [List.getD_eq_getElem?_getD, List.getElem?_set]
  by_cases e : i = j
  · subst e; simp [h]
  · rw [if_neg e, if_neg (Ne.symm e)]
/-- The parts of the first k digits. -/
def tgReadTo (l : List Nat) : Nat → List Nat
  | 0 => zero5
  | k + 1 =>
    let n := tgReadTo l k
    let x := l.getD k 0 * 2 ^ (8 * k % 26)
    let m := n.set (8 * k / 26) (n.getD (8 * k / 26) 0 + x % 67108864)
    if 8 * k / 26 < 4 then m.set (8 * k / 26 + 1) (m.getD (8 * k / 26 + 1) 0 + x / 67108864) else m
theorem tgReadTo_len (l : List Nat) : ∀ k, (tgReadTo l k).length = 5
  | 0 => rfl
  | k + 1 => by
    unfold tgReadTo
    simp only
    split <;> simp [tgReadTo_len l k]
def readB : Nat → Nat → Nat
  | 0, _ => 0
  | k + 1, j => readB k j + (if j = 8 * k / 26 then 67108864 else 0) + (if j = 8 * k / 26 + 1 then 64 else 0)
theorem readB_le : ∀ k, k ≤ 17 → ∀ j, j < 5 → readB k j ≤ 268435712 := by
  intro k hk j hj
  have h : ((List.range 18).all fun k => (List.range 5).all fun j => decide (readB k j ≤ 268435712)) = true := by decide +kernel
  have h1 := List.all_eq_true.1 h k (by simp; omega)
  have h2 := List.all_eq_true.1 h1 j (by simpa using hj)
  simpa using h2
theorem shl_lt {x k : Nat} (h : x ≤ 255) : x * 2 ^ (8 * k % 26) < 4294967296 := by
  have h1 : 8 * k % 26 ≤ 24 := by omega
  have h2 : 2 ^ (8 * k % 26) ≤ 2 ^ 24 := Nat.pow_le_pow_right (by omega) h1
  have h3 := Nat.mul_le_mul h h2
  omega
theorem tgReadTo_le {l : List Nat} (hl : ∀ x ∈ l, x ≤ 255) : ∀ k, k ≤ 17 → UpTo (tgReadTo l k) (readB k)
  | 0, _ => fun j => by
    show zero5.getD j 0 ≤ 0
    match j with
    | 0 | 1 | 2 | 3 | 4 => exact Nat.le_refl _
    | j + 5 => simp [zero5]
  | k + 1, hk => fun j => by
    have ih := tgReadTo_le hl k (by omega)
    have hx : l.getD k 0 ≤ 255 := by
      rcases Nat.lt_or_ge k l.length with h | h
      · rw [List.getD_eq_getElem?_getD, List.getElem?_eq_getElem h]
        exact hl _ (List.getElem_mem h)
      · rw [List.getD_eq_getElem?_getD, List.getElem?_eq_none h]
        exact Nat.zero_le _
    have hx2 := shl_lt (k := k) hx
    have h5 := tgReadTo_len l k
    have hq : 8 * k / 26 < 5 := by omega
    unfold tgReadTo readB
    simp only
    generalize l.getD k 0 * 2 ^ (8 * k % 26) = x at hx2
    generalize 8 * k / 26 = q at hq
    have i1 := ih j
    have i2 := ih q
    have i3 := ih (q + 1)
    have m1 : x % 67108864 < 67108864 := Nat.mod_lt _ (by omega)
    have m2 : x / 67108864 < 64 := by omega
    split
    · rw [getD_set _ _ _ _ (by simp [h5]; omega), getD_set _ _ _ _ (by omega), getD_set _ _ _ _ (by omega)]
      by_cases e1 : j = q + 1
      · subst e1
        rw [if_pos rfl, if_neg (by omega), if_neg (by omega), if_pos rfl]
        omega
      · rw [if_neg e1, if_neg e1]
        by_cases e2 : j = q
        · subst e2
          rw [if_pos rfl, if_pos rfl]
          omega
        · rw [if_neg e2, if_neg e2]
          omega
    · rw [getD_set _ _ _ _ (by omega)]
      by_cases e2 : j = q
      · subst e2
        rw [if_pos rfl, if_pos rfl]
        omega
      · rw [if_neg e2, if_neg e2]
        omega
/-- Sums of the first k parts. -/
def plusTo (n m : List Nat) : Nat → List Nat
  | 0 => n
  | k + 1 => (plusTo n m k).set k ((plusTo n m k).getD k 0 + m.getD k 0)
theorem plusTo_len (n m : List Nat) : ∀ k, (plusTo n m k).length = n.length
  | 0 => rfl
  | k + 1 => by rw [plusTo, List.length_set, plusTo_len n m k]
theorem plusTo_at (n m : List Nat) (hn : n.length = 5) : ∀ k, k ≤ 5 → ∀ j, (plusTo n m k).getD j 0 = if j < k then n.getD j 0 + m.getD j 0 else n.getD j 0
  | 0, _, j => by simp [plusTo]
  | k + 1, hk, j => by
    have ih := plusTo_at n m hn k (by omega)
    rw [plusTo, getD_set _ _ _ _ (by rw [plusTo_len, hn]; omega)]
    by_cases e : j = k
    · subst e
      rw [if_pos rfl, if_pos (by omega), ih j, if_neg (by omega)]
    · rw [if_neg e, ih j]
      by_cases h : j < k
      · rw [if_pos h, if_pos (by omega)]
      · rw [if_neg h, if_neg (by omega)]
/-- One product more. -/
def timesAt (n m t : List Nat) (i k : Nat) : List Nat := t.set ((i + k) % 5) (t.getD ((i + k) % 5) 0 + n.getD i 0 * m.getD k 0 * (if 5 ≤ i + k then 5 else 1))
def timesIn (n m t : List Nat) (i : Nat) : Nat → List Nat
  | 0 => t
  | k + 1 => timesAt n m (timesIn n m t i k) i k
def tgTimesTo (n m : List Nat) : Nat → List Nat
  | 0 => zero5
  | i + 1 => timesIn n m (tgTimesTo n m i) i 5
theorem timesIn_len (n m t : List Nat) (i : Nat) : ∀ k, (timesIn n m t i k).length = t.length
  | 0 => rfl
  | k + 1 => by rw [timesIn, timesAt, List.length_set, timesIn_len n m t i k]
theorem tgTimesTo_len (n m : List Nat) : ∀ i, (tgTimesTo n m i).length = 5
  | 0 => rfl
  | i + 1 => by rw [tgTimesTo, timesIn_len, tgTimesTo_len n m i]
/-- How many products part j has had. -/
def cntIn (c : Nat → Nat) (i : Nat) : Nat → Nat → Nat
  | 0, j => c j
  | k + 1, j => cntIn c i k j + if j = (i + k) % 5 then 1 else 0
theorem timesIn_le {n m t : List Nat} {c : Nat → Nat} {M : Nat} (ht : t.length = 5) (hM : ∀ i k, n.getD i 0 * m.getD k 0 ≤ M) (i : Nat) (hc : ∀ j, t.getD j 0 ≤ c j * (5 * M)) : ∀ k j, (timesIn n m t i k).getD j 0 ≤ cntIn c i k j * (5 * M)
  | 0, j => hc j
  | k + 1, j => by
    have ih := timesIn_le ht hM i hc k
    have hq : (i + k) % 5 < 5 := Nat.mod_lt _ (by omega)
    rw [timesIn, timesAt, getD_set _ _ _ _ (by rw [timesIn_len, ht]; exact hq), cntIn]
    by_cases e : j = (i + k) % 5
    · rw [if_pos e, if_pos e, ← e]
      have h1 := hM i k
      have h2 := ih j
      have h3 : n.getD i 0 * m.getD k 0 * (if 5 ≤ i + k then 5 else 1) ≤ 5 * M := by
        split
        · omega
        · omega
      rw [Nat.add_mul, Nat.one_mul]
      omega
    · rw [if_neg e, if_neg e]
      exact ih j
def cntTo : Nat → Nat → Nat
  | 0, _ => 0
  | i + 1, j => cntIn (cntTo i) i 5 j
theorem tgTimesTo_le {n m : List Nat} {M : Nat} (hM : ∀ i k, n.getD i 0 * m.getD k 0 ≤ M) : ∀ i j, (tgTimesTo n m i).getD j 0 ≤ cntTo i j * (5 * M)
  | 0, j => by
    show zero5.getD j 0 ≤ _
    match j with
    | 0 | 1 | 2 | 3 | 4 => exact Nat.zero_le _
    | j + 5 => simp [zero5]
  | i + 1, j => timesIn_le (tgTimesTo_len n m i) hM i (tgTimesTo_le hM i) 5 j
theorem cntIn_le : ∀ i, i < 5 → ∀ k, k ≤ 5 → ∀ j, j < 5 → cntIn (cntTo i) i k j ≤ 5 := by
  intro i hi k hk j hj
  have h : ((List.range 5).all fun i => (List.range 6).all fun k => (List.range 5).all fun j => decide (cntIn (cntTo i) i k j ≤ 5)) = true := by decide +kernel
  have h0 := List.all_eq_true.1 h i (by simpa using hi)
  have h1 := List.all_eq_true.1 h0 k (by simp; omega)
  have h2 := List.all_eq_true.1 h1 j (by simpa using hj)
  simpa using h2
/-- One pass of the carries over the first k parts: what is carried, and the parts. -/
def passTo (n : List Nat) : Nat → Nat × List Nat
  | 0 => (0, n)
  | k + 1 => (((passTo n k).2.getD k 0 + (passTo n k).1) / 67108864, (passTo n k).2.set k (((passTo n k).2.getD k 0 + (passTo n k).1) % 67108864))
def passN (n : List Nat) : List Nat := (passTo n 5).2.set 0 ((passTo n 5).2.getD 0 0 + 5 * (passTo n 5).1)
theorem five {n : List Nat} (h : n.length = 5) : ∃ a b c d e, n = [a, b, c, d, e] := by
  match n, h with
  | [a, b, c, d, e], _ => exact ⟨a, b, c, d, e, rfl⟩
theorem passTo_len (n : List Nat) : ∀ k, (passTo n k).2.length = n.length
  | 0 => rfl
  | k + 1 => by rw [passTo]; simp [passTo_len n k]
theorem passN_len (n : List Nat) : (passN n).length = n.length := by rw [passN, List.length_set, passTo_len]
/-- A pass keeps what the parts are worth, by P; the carry is what was beyond. -/
theorem passN_val {n : List Nat} (h : n.length = 5) : valN n + 5 * (passTo n 5).1 = valN (passN n) + (passTo n 5).1 * 1361129467683753853853498429727072845824 := by
  obtain ⟨a, b, c, d, e, rfl⟩ := five h
  simp only [passN, passTo, valN, List.getD_cons_zero, List.getD_cons_succ, List.set_cons_zero, List.set_cons_succ]
  omega
theorem passN_in {n : List Nat} (h : n.length = 5) : (passN n).getD 0 0 < 67108864 + 5 * (passTo n 5).1 ∧ (passN n).getD 1 0 < 67108864 ∧ (passN n).getD 2 0 < 67108864 ∧ (passN n).getD 3 0 < 67108864 ∧ (passN n).getD 4 0 < 67108864 := by
  obtain ⟨a, b, c, d, e, rfl⟩ := five h
  simp only [passN, passTo, List.getD_cons_zero, List.getD_cons_succ, List.set_cons_zero, List.set_cons_succ]
  omega
/-- Parts that are not too great. -/
def fitN (n : List Nat) : Prop := n.getD 0 0 ≤ 4611686018427387904 ∧ n.getD 1 0 ≤ 4611686018427387904 ∧ n.getD 2 0 ≤ 4611686018427387904 ∧ n.getD 3 0 ≤ 4611686018427387904 ∧ n.getD 4 0 ≤ 4611686018427387904
theorem passTo_le {n : List Nat} (h : n.length = 5) (hf : fitN n) : ∀ k, k ≤ 5 → (passTo n k).1 ≤ 137438953472 ∧ fitN (passTo n k).2 := by
  obtain ⟨a, b, c, d, e, rfl⟩ := five h
  simp only [fitN, List.getD_cons_zero, List.getD_cons_succ] at hf
  intro k hk
  match k, hk with
  | 0, _ => simp only [passTo, fitN, List.getD_cons_zero, List.getD_cons_succ]; omega
  | 1, _ => simp only [passTo, fitN, List.getD_cons_zero, List.getD_cons_succ, List.set_cons_zero, List.set_cons_succ]; omega
  | 2, _ => simp only [passTo, fitN, List.getD_cons_zero, List.getD_cons_succ, List.set_cons_zero, List.set_cons_succ]; omega
  | 3, _ => simp only [passTo, fitN, List.getD_cons_zero, List.getD_cons_succ, List.set_cons_zero, List.set_cons_succ]; omega
  | 4, _ => simp only [passTo, fitN, List.getD_cons_zero, List.getD_cons_succ, List.set_cons_zero, List.set_cons_succ]; omega
  | 5, _ => simp only [passTo, fitN, List.getD_cons_zero, List.getD_cons_succ, List.set_cons_zero, List.set_cons_succ]; omega
theorem fitN_get {n : List Nat} (hf : fitN n) (i : Nat) (hi : i < 5) : n.getD i 0 ≤ 4611686018427387904 := by
  match i, hi with
  | 0, _ => exact hf.1
  | 1, _ => exact hf.2.1
  | 2, _ => exact hf.2.2.1
  | 3, _ => exact hf.2.2.2.1
  | 4, _ => exact hf.2.2.2.2
theorem passN_fit {n : List Nat} (h : n.length = 5) (hf : fitN n) : fitN (passN n) := by
  have h1 := passN_in h
  have h2 := (passTo_le h hf 5 (by omega)).1
  unfold fitN
  omega
theorem passN_less {n : List Nat} (h : n.length = 5) (ho : (passTo n 5).1 ≠ 0) : valN (passN n) < valN n := by
  have := passN_val h
  omega
theorem passN_mod {n : List Nat} (h : n.length = 5) : valN (passN n) % primeP = valN n % primeP := by
  have e := passN_val h
  have e2 : valN n = valN (passN n) + primeP * (passTo n 5).1 := by unfold primeP; omega
  rw [e2, Nat.add_mul_mod_self_left]
/-- The parts of a number. -/
def partsOf (v : Nat) : List Nat := [v % 67108864, v / 67108864 % 67108864, v / 4503599627370496 % 67108864, v / 302231454903657293676544 % 67108864, v / 20282409603651670423947251286016 % 67108864]
/-- Are the parts within bounds? -/
def lowN (n : List Nat) : Prop := n.getD 0 0 < 67108864 ∧ n.getD 1 0 < 67108864 ∧ n.getD 2 0 < 67108864 ∧ n.getD 3 0 < 67108864 ∧ n.getD 4 0 < 67108864
theorem parts_val {n : List Nat} (h : n.length = 5) (hl : lowN n) : partsOf (valN n) = n ∧ valN n < 1361129467683753853853498429727072845824 := by
  obtain ⟨a, b, c, d, e, rfl⟩ := five h
  simp only [lowN, List.getD_cons_zero, List.getD_cons_succ] at hl
  simp only [partsOf, valN, List.getD_cons_zero, List.getD_cons_succ, List.cons.injEq, and_true]
  omega
def topB (n : List Nat) : Bool := decide (67108859 ≤ n.getD 0 0) && (n.getD 1 0 == 67108863) && (n.getD 2 0 == 67108863) && (n.getD 3 0 == 67108863) && (n.getD 4 0 == 67108863)
theorem top_val {n : List Nat} (h : n.length = 5) (hl : lowN n) : topB n = decide (primeP ≤ valN n) := by
  obtain ⟨a, b, c, d, e, rfl⟩ := five h
  simp only [lowN, List.getD_cons_zero, List.getD_cons_succ] at hl
  rw [Bool.eq_iff_iff]
  simp only [topB, primeP, valN, List.getD_cons_zero, List.getD_cons_succ, Bool.and_eq_true, decide_eq_true_eq, beq_iff_eq]
  constructor
  · intro h; omega
  · intro h; omega
/-- What is left of a number by P. -/
def leftN (n : List Nat) : List Nat := partsOf (valN n % primeP)
theorem left_top {n : List Nat} (h : n.length = 5) (hl : lowN n) (ht : topB n = true) : [n.getD 0 0 - 67108859, 0, 0, 0, 0] = leftN n := by
  obtain ⟨a, b, c, d, e, rfl⟩ := five h
  simp only [lowN, List.getD_cons_zero, List.getD_cons_succ] at hl
  simp only [topB, List.getD_cons_zero, List.getD_cons_succ, Bool.and_eq_true, decide_eq_true_eq, beq_iff_eq] at ht
  have hv : valN [a, b, c, d, e] % primeP = a - 67108859 := by
    simp only [primeP, valN, List.getD_cons_zero, List.getD_cons_succ]
    omega
  rw [leftN, hv]
  simp only [partsOf, List.getD_cons_zero, List.cons.injEq, and_true]
  omega
theorem left_low {n : List Nat} (h : n.length = 5) (hl : lowN n) (ht : topB n = false) : n = leftN n := by
  have h1 := (parts_val h hl).1
  rw [top_val h hl] at ht
  have h2 : valN n < primeP := by simpa using ht
  rw [leftN, Nat.mod_eq_of_lt h2, h1]
theorem left_len (n : List Nat) : (leftN n).length = 5 := rfl

/- TagT2 -/
set_option linter.unusedVariables false
set_option linter.unusedSimpArgs false

/-- Digit i of base 256. -/
def digN (n : List Nat) (i : Nat) : Nat := (if 8 * i / 26 < 4 then n.getD (8 * i / 26) 0 / 2 ^ (8 * i % 26) ||| n.getD (8 * i / 26 + 1) 0 * 2 ^ (26 - 8 * i % 26) else n.getD (8 * i / 26) 0 / 2 ^ (8 * i % 26)) % 256
def digL (n : List Nat) : List Nat := (List.range 17).map (digN n)
theorem digL_len (n : List Nat) : (digL n).length = 17 := by simp [digL]
theorem digL_get (n : List Nat) (i : Nat) (h : i < 17) : (digL n).getD i 0 = digN n i := by simp [digL, h]
theorem digN_le (n : List Nat) (i : Nat) : digN n i ≤ 255 := by
  have : digN n i < 256 := Nat.mod_lt _ (by omega)
  omega
theorem digL_le (n : List Nat) : ∀ x ∈ digL n, x ≤ 255 := by
  intro x hx
  obtain ⟨i, _, rfl⟩ := List.mem_map.1 hx
  exact digN_le n i
theorem tgOr_add {x s : Nat} (y : Nat) (h : x < 2 ^ s) : x ||| y * 2 ^ s = x + y * 2 ^ s := by
  have := Nat.two_pow_add_eq_or_of_lt h y
  rw [Nat.or_comm, Nat.mul_comm y, ← this, Nat.add_comm]
/-- A row of digits, of a number below P. -/
def tgRowP (l : List Nat) : Prop := l.length = 17 ∧ (∀ x ∈ l, x ≤ 255) ∧ (l.getD 16 0 < 3 ∨ l.getD 16 0 = 3 ∧ ((∃ i, 1 ≤ i ∧ i ≤ 15 ∧ l.getD i 0 < 255) ∨ l.getD 0 0 < 251))
theorem dig_low {a b c d e : Nat} (ha : a < 67108864) (hb : b < 67108864) (hc : c < 67108864) (hd : d < 67108864) (he : e < 67108864) :
    digN [a, b, c, d, e] 0 = a % 256 ∧ digN [a, b, c, d, e] 1 = a / 256 % 256 ∧ digN [a, b, c, d, e] 2 = a / 65536 % 256 ∧ digN [a, b, c, d, e] 3 = (a / 16777216 + b * 4) % 256 ∧
    digN [a, b, c, d, e] 4 = b / 64 % 256 ∧ digN [a, b, c, d, e] 5 = b / 16384 % 256 ∧ digN [a, b, c, d, e] 6 = (b / 4194304 + c * 16) % 256 ∧
    digN [a, b, c, d, e] 7 = c / 16 % 256 ∧ digN [a, b, c, d, e] 8 = c / 4096 % 256 ∧ digN [a, b, c, d, e] 9 = (c / 1048576 + d * 64) % 256 ∧
    digN [a, b, c, d, e] 10 = d / 4 % 256 ∧ digN [a, b, c, d, e] 11 = d / 1024 % 256 ∧ digN [a, b, c, d, e] 12 = d / 262144 % 256 ∧
    digN [a, b, c, d, e] 13 = e % 256 ∧ digN [a, b, c, d, e] 14 = e / 256 % 256 ∧ digN [a, b, c, d, e] 15 = e / 65536 % 256 ∧ digN [a, b, c, d, e] 16 = e / 16777216 := by
  have o0 := tgOr_add (x := a / 1) (s := 26) b (by omega)
  have o1 := tgOr_add (x := a / 256) (s := 18) b (by omega)
  have o2 := tgOr_add (x := a / 65536) (s := 10) b (by omega)
  have o3 := tgOr_add (x := a / 16777216) (s := 2) b (by omega)
  have o4 := tgOr_add (x := b / 64) (s := 20) c (by omega)
  have o5 := tgOr_add (x := b / 16384) (s := 12) c (by omega)
  have o6 := tgOr_add (x := b / 4194304) (s := 4) c (by omega)
  have o7 := tgOr_add (x := c / 16) (s := 22) d (by omega)
  have o8 := tgOr_add (x := c / 4096) (s := 14) d (by omega)
  have o9 := tgOr_add (x := c / 1048576) (s := 6) d (by omega)
  have o10 := tgOr_add (x := d / 4) (s := 24) e (by omega)
  have o11 := tgOr_add (x := d / 1024) (s := 16) e (by omega)
  have o12 := tgOr_add (x := d / 262144) (s := 8) e (by omega)
  have g0 : digN [a, b, c, d, e] 0 = (a / 1 ||| b * 2 ^ 26) % 256 := rfl
  have g1 : digN [a, b, c, d, e] 1 = (a / 256 ||| b * 2 ^ 18) % 256 := rfl
  have g2 : digN [a, b, c, d, e] 2 = (a / 65536 ||| b * 2 ^ 10) % 256 := rfl
  have g3 : digN [a, b, c, d, e] 3 = (a / 16777216 ||| b * 2 ^ 2) % 256 := rfl
  have g4 : digN [a, b, c, d, e] 4 = (b / 64 ||| c * 2 ^ 20) % 256 := rfl
  have g5 : digN [a, b, c, d, e] 5 = (b / 16384 ||| c * 2 ^ 12) % 256 := rfl
  have g6 : digN [a, b, c, d, e] 6 = (b / 4194304 ||| c * 2 ^ 4) % 256 := rfl
  have g7 : digN [a, b, c, d, e] 7 = (c / 16 ||| d * 2 ^ 22) % 256 := rfl
  have g8 : digN [a, b, c, d, e] 8 = (c / 4096 ||| d * 2 ^ 14) % 256 := rfl
  have g9 : digN [a, b, c, d, e] 9 = (c / 1048576 ||| d * 2 ^ 6) % 256 := rfl
  have g10 : digN [a, b, c, d, e] 10 = (d / 4 ||| e * 2 ^ 24) % 256 := rfl
  have g11 : digN [a, b, c, d, e] 11 = (d / 1024 ||| e * 2 ^ 16) % 256 := rfl
  have g12 : digN [a, b, c, d, e] 12 = (d / 262144 ||| e * 2 ^ 8) % 256 := rfl
  have g13 : digN [a, b, c, d, e] 13 = (e / 1) % 256 := rfl
  have g14 : digN [a, b, c, d, e] 14 = e / 256 % 256 := rfl
  have g15 : digN [a, b, c, d, e] 15 = e / 65536 % 256 := rfl
  have g16 : digN [a, b, c, d, e] 16 = e / 16777216 % 256 := rfl
  rw [g0, g1, g2, g3, g4, g5, g6, g7, g8, g9, g10, g11, g12, g13, g14, g15, g16, o0, o1, o2, o3, o4, o5, o6, o7, o8, o9, o10, o11, o12]
  clear o0 o1 o2 o3 o4 o5 o6 o7 o8 o9 o10 o11 o12 g0 g1 g2 g3 g4 g5 g6 g7 g8 g9 g10 g11 g12 g13 g14 g15 g16
  refine ⟨?_, ?_, ?_, ?_, ?_, ?_, ?_, ?_, ?_, ?_, ?_, ?_, ?_, ?_, ?_, ?_, ?_⟩ <;> omega
theorem row_left (n : List Nat) : tgRowP (digL (leftN n)) := by
  refine ⟨digL_len _, digL_le _, ?_⟩
  rw [digL_get _ 16 (by omega), digL_get _ 0 (by omega)]
  have hv : valN n % primeP < primeP := Nat.mod_lt _ (by decide)
  unfold leftN
  generalize valN n % primeP = v at hv
  have ha : v % 67108864 < 67108864 := Nat.mod_lt _ (by omega)
  have hb : v / 67108864 % 67108864 < 67108864 := Nat.mod_lt _ (by omega)
  have hc : v / 4503599627370496 % 67108864 < 67108864 := Nat.mod_lt _ (by omega)
  have hd : v / 302231454903657293676544 % 67108864 < 67108864 := Nat.mod_lt _ (by omega)
  have he : v / 20282409603651670423947251286016 % 67108864 < 67108864 := Nat.mod_lt _ (by omega)
  have hs : v = v % 67108864 + v / 67108864 % 67108864 * 67108864 + v / 4503599627370496 % 67108864 * 4503599627370496 + v / 302231454903657293676544 % 67108864 * 302231454903657293676544 + v / 20282409603651670423947251286016 % 67108864 * 20282409603651670423947251286016 := by
    unfold primeP at hv
    omega
  unfold partsOf
  generalize v % 67108864 = a at *
  generalize v / 67108864 % 67108864 = b at *
  generalize v / 4503599627370496 % 67108864 = c at *
  generalize v / 302231454903657293676544 % 67108864 = d at *
  generalize v / 20282409603651670423947251286016 % 67108864 = e at *
  have hg := fun i h => digL_get [a, b, c, d, e] i h
  obtain ⟨g0, g1, g2, g3, g4, g5, g6, g7, g8, g9, g10, g11, g12, g13, g14, g15, g16⟩ := dig_low ha hb hc hd he
  by_cases h16 : e / 16777216 < 3
  · exact .inl (by rw [g16]; exact h16)
  · refine .inr ⟨by rw [g16]; omega, ?_⟩
    by_cases hex : ∃ i, 1 ≤ i ∧ i ≤ 15 ∧ (digL [a, b, c, d, e]).getD i 0 < 255
    · exact .inl hex
    · refine .inr ?_
      have hf : ∀ i, 1 ≤ i → i ≤ 15 → digN [a, b, c, d, e] i = 255 := fun i h1 h2 => by
        have h3 := digN_le [a, b, c, d, e] i
        have h4 : ¬ digN [a, b, c, d, e] i < 255 := fun h => hex ⟨i, h1, h2, by rw [hg i (by omega)]; exact h⟩
        omega
      have f1 := (g1.symm.trans (hf 1 (by omega) (by omega)))
      have f2 := (g2.symm.trans (hf 2 (by omega) (by omega)))
      have f3 := (g3.symm.trans (hf 3 (by omega) (by omega)))
      have f4 := (g4.symm.trans (hf 4 (by omega) (by omega)))
      have f5 := (g5.symm.trans (hf 5 (by omega) (by omega)))
      have f6 := (g6.symm.trans (hf 6 (by omega) (by omega)))
      have f7 := (g7.symm.trans (hf 7 (by omega) (by omega)))
      have f8 := (g8.symm.trans (hf 8 (by omega) (by omega)))
      have f9 := (g9.symm.trans (hf 9 (by omega) (by omega)))
      have f10 := (g10.symm.trans (hf 10 (by omega) (by omega)))
      have f11 := (g11.symm.trans (hf 11 (by omega) (by omega)))
      have f12 := (g12.symm.trans (hf 12 (by omega) (by omega)))
      have f13 := (g13.symm.trans (hf 13 (by omega) (by omega)))
      have f14 := (g14.symm.trans (hf 14 (by omega) (by omega)))
      have f15 := (g15.symm.trans (hf 15 (by omega) (by omega)))
      rw [g0]
      clear g0 g1 g2 g3 g4 g5 g6 g7 g8 g9 g10 g11 g12 g13 g14 g15 g16 hg hf hex
      have e1 : e = 67108863 := by clear f1 f2 f3 f4 f5 f6 f7 f8 f9 f10 f11 f12 hs; omega
      have d1 : d = 67108863 ∧ c / 1048576 = 63 := by clear f1 f2 f3 f4 f5 f6 f7 f8 f13 f14 f15 hs; omega
      have c1 : c = 67108863 ∧ b / 4194304 = 15 := by obtain ⟨_, h⟩ := d1; clear f1 f2 f3 f4 f5 f9 f10 f11 f12 f13 f14 f15 hs; omega
      have b1 : b = 67108863 ∧ a / 16777216 = 3 := by obtain ⟨_, h⟩ := c1; clear f1 f2 f6 f7 f8 f9 f10 f11 f12 f13 f14 f15 hs; omega
      obtain ⟨rfl, _⟩ := d1
      obtain ⟨rfl, _⟩ := c1
      obtain ⟨rfl, h3⟩ := b1
      subst e1
      unfold primeP at hv
      clear f3 f4 f5 f6 f7 f8 f9 f10 f11 f12 f13 f14 f15
      omega

/- Tb -/
/- Tag -/
open Go.RowKit
set_option linter.unusedVariables false
set_option linter.unusedSimpArgs false
set_option maxRecDepth 100000
set_option maxHeartbeats 1000000

def natI (xs : List Nat) : List Int := List.map (fun (n : Nat) => (n : Int)) xs
theorem natI_len (xs : List Nat) : (natI xs).length = xs.length := by simp [natI]
theorem natI_get (xs : List Nat) (i : Nat) : (natI xs).getD i 0 = ((xs.getD i 0 : Nat) : Int) := by
  simp only [natI, List.getD_eq_getElem?_getD, List.getElem?_map]
  cases xs[i]? <;> rfl
theorem natI_set (xs : List Nat) (i v : Nat) : (natI xs).set i (v : Int) = natI (xs.set i v) := by simp [natI, List.map_set]
theorem nat_cell {w : World} {g : Nat} {t : TypeId} {xs : List Nat} (h : w.heap[g]? = some (.cells (ints (natI xs)).toArray t (0, 0))) {i : Nat} (hi : i < xs.length) :
    w.cell? ⟨g, i, none⟩ = some (.int .i64 ((xs.getD i 0 : Nat) : Int)) ∧ w.frozen? ⟨g, i, none⟩ = false := by
  have := ints_cell h (i := i) (by rw [natI_len]; exact hi)
  rw [natI_get] at this
  exact this
theorem nat_set {w : World} {g : Nat} {t : TypeId} {xs : List Nat} (h : w.heap[g]? = some (.cells (ints (natI xs)).toArray t (0, 0))) (i v : Nat) :
    (w.setCell ⟨g, i, none⟩ (.int .i64 (v : Int))).heap[g]? = some (.cells (ints (natI (xs.set i v))).toArray t (0, 0)) := by
  rw [ints_set h, natI_set]
/-- A number as a value. -/
abbrev numV (n : List Nat) : Value := .agg (ints (natI n)).toArray
theorem five_cells {w : World} {g : Nat} {t : TypeId} {a b c d e : Value} (h : w.heap[g]? = some (.cells #[a, b, c, d, e] t (0, 0))) :
    (w.cell? ⟨g, 0, none⟩ = some a ∧ w.cell? ⟨g, 1, none⟩ = some b ∧ w.cell? ⟨g, 2, none⟩ = some c ∧ w.cell? ⟨g, 3, none⟩ = some d ∧ w.cell? ⟨g, 4, none⟩ = some e) ∧ ∀ i, w.frozen? ⟨g, i, none⟩ = false := by
  refine ⟨⟨?_, ?_, ?_, ?_, ?_⟩, fun i => ?_⟩
  all_goals first | (unfold World.cell?; simp only [h]; rfl) | (unfold World.frozen?; simp only [h]; simp)
theorem five_set {w : World} {g : Nat} {t : TypeId} {a0 a1 a2 a3 a4 : Value} (h : w.heap[g]? = some (.cells #[a0, a1, a2, a3, a4] t (0, 0))) (b0 b1 b2 b3 b4 : Value) :
    (((((w.setCell ⟨g, 0, none⟩ b0).setCell ⟨g, 1, none⟩ b1).setCell ⟨g, 2, none⟩ b2).setCell ⟨g, 3, none⟩ b3).setCell ⟨g, 4, none⟩ b4).heap[g]? = some (.cells #[b0, b1, b2, b3, b4] t (0, 0)) := by
  have := blk_set (blk_set (blk_set (blk_set (blk_set h 0 b0) 1 b1) 2 b2) 3 b3) 4 b4
  simp only [List.setIfInBounds_toArray, List.set_cons_zero, List.set_cons_succ] at this
  exact this
theorem five_by {w0 w : World} {B g : Nat} (h : Below B w0 w) (hB : B ≤ g) (b0 b1 b2 b3 b4 : Value) :
    Below B w0 (((((w.setCell ⟨g, 0, none⟩ b0).setCell ⟨g, 1, none⟩ b1).setCell ⟨g, 2, none⟩ b2).setCell ⟨g, 3, none⟩ b3).setCell ⟨g, 4, none⟩ b4) :=
  ((((h.setCell hB b0).setCell hB b1).setCell hB b2).setCell hB b3).setCell hB b4
theorem load5 {w : World} {g : Nat} {a b c d e : Value} {t : TypeId} (h : w.heap[g]? = some (.cells #[a, b, c, d, e] t (0, 0))) : (loadVar 167 ⟨g, 0, none⟩).run Tryz.prog w = .ok (.agg #[a, b, c, d, e]) w :=
  run_loadVar_mid (P := Tryz.prog) w g 0 167 [a, b, c, d, e] _ (fun j v hj => by
    rw [Nat.zero_add, cell_of_row w g j _ _ _ h]
    simpa using hj) Tryz.underlying167 rfl (by kernel_rfl)
theorem resC {P : Program} {fn : Func} {a : Tmp} {ty : TypeId} (h : fn.results = #[.cell a ty]) (tmps : Array Value) (w : World) (g : Nat) (ha : tmps.getD a undef = .pointer (some ⟨g, 0, none⟩)) (v : Value)
    (hl : (loadVar ty ⟨g, 0, none⟩).run P w = .ok v w) : (results fn tmps).run P w = .ok v w := by
  have ha' : tmps[a]?.getD undef = .pointer (some ⟨g, 0, none⟩) := by simpa using ha
  simp [results, h, asAddr, ha', hl]
theorem two_blk (w : World) (a b : Array Value) (ta tb : TypeId) : ((w.alloc (.cells a ta)).alloc (.cells b tb)).heap[w.heap.size]? = some (.cells a ta (0, 0)) ∧ ((w.alloc (.cells a ta)).alloc (.cells b tb)).heap[w.heap.size + 1]? = some (.cells b tb (0, 0)) ∧ Below w.heap.size w ((w.alloc (.cells a ta)).alloc (.cells b tb)) := by
  have h1 := heap_alloc_new (w.alloc (.cells a ta)) (.cells b tb)
  rw [World.size_alloc] at h1
  exact ⟨(Below.heap_alloc (w.alloc (.cells a ta)) (.cells b tb) w.heap.size (by simp)).trans (heap_alloc_new w _), h1, ((Below.refl _ w).alloc (Nat.le_refl _) _).alloc (by simp) _⟩
theorem three_blk (w : World) (a b c : Array Value) (ta tb tc : TypeId) : (((w.alloc (.cells a ta)).alloc (.cells b tb)).alloc (.cells c tc)).heap[w.heap.size]? = some (.cells a ta (0, 0)) ∧ (((w.alloc (.cells a ta)).alloc (.cells b tb)).alloc (.cells c tc)).heap[w.heap.size + 1]? = some (.cells b tb (0, 0)) ∧ (((w.alloc (.cells a ta)).alloc (.cells b tb)).alloc (.cells c tc)).heap[w.heap.size + 1 + 1]? = some (.cells c tc (0, 0)) ∧ Below w.heap.size w (((w.alloc (.cells a ta)).alloc (.cells b tb)).alloc (.cells c tc)) := by
  obtain ⟨h1, h2, h3⟩ := two_blk w a b ta tb
  have h4 := heap_alloc_new ((w.alloc (.cells a ta)).alloc (.cells b tb)) (.cells c tc)
  rw [World.size_alloc, World.size_alloc] at h4
  have al := (Below.refl ((w.alloc (.cells a ta)).alloc (.cells b tb)).heap.size ((w.alloc (.cells a ta)).alloc (.cells b tb))).alloc (Nat.le_refl _) (.cells c tc)
  exact ⟨cells_below h1 al, cells_below h2 al, h4, Below.chain h3 al⟩
theorem keep2_drw {W : World} {p q : Addr} {u v : Value} (h : W.cell? p = some u ∧ W.cell? q = some v) : W.drew.cell? p = some u ∧ W.drew.cell? q = some v := h
abbrev z5 : Array Value := #[.int .i64 0, .int .i64 0, .int .i64 0, .int .i64 0, .int .i64 0]
theorem z5_ints : z5 = (ints (natI zero5)).toArray := rfl
theorem and_low26 (a : Nat) (h : a < 9223372036854775808) : bits .and .i64 (a : Int) 67108863 = ((a % 67108864 : Nat) : Int) := by
  show IntKind.i64.wrap ((BitVec.ofInt 64 (a : Int) &&& BitVec.ofInt 64 ((67108863 : Nat) : Int)).toNat : Int) = _
  rw [BitVec.toNat_and, toNat_ofInt64 a h, toNat_ofInt64 67108863 (by omega), show (67108863 : Nat) = 2 ^ 26 - 1 from rfl, Nat.and_two_pow_sub_one_eq_mod, IntKind.wrap_i64]
  omega
theorem tgRead_any (A : Option Addr) (n c : Nat) (l : List Nat) (w : World) (hr : Rd w A (ints (natI l))) (hn : n = l.length) (h17 : l.length ≤ 17) (hl : ∀ x ∈ l, x ≤ 255) :
    Calls Tryz.prog 142 #[.slice A n c] w fun e w' => e = .returned (numV (tgReadTo l l.length)) ∧ Below w.heap.size w w' := by
  obtain ⟨hX, hY, hbA⟩ := two_blk w z5 z5 167 167
  have HR := Lib.hid hr
  have HN := Lib.hid hn
  have HL := Lib.hid hl
  have H0 := Lib.hid hX
  have H1 := Lib.hid hY
  have HB := Lib.hid hbA
  clear hX hY hbA hr hl hn
  have h17n : n ≤ 17 := by rw [HN.out]; exact h17
  clear h17
  go_enter Tryz.func142, Tryz.ntmps142
  go_wp2_with fail
  go_loopw [9] (fun x wr => ∃ k : Nat, k ≤ n ∧ x = .int .i64 (k : Nat) ∧ wr.heap[w.heap.size + 1]? = some (.cells (ints (natI (tgReadTo l k))).toArray 167 (0, 0)) ∧ wr.heap[w.heap.size]? = some (.cells z5 167 (0, 0)) ∧ Below w.heap.size w wr) (fun x _ => n - (intOf x).toNat)
  case atStart => exact ⟨0, by omega, rfl, H1.out, H0.out, HB.out⟩
  case round =>
    obtain ⟨k, hk, rfl, hn1, hn0, hb⟩ := hrel
    have Hn1 := Lib.hid hn1
    have Hn0 := Lib.hid hn0
    have Hb := Lib.hid hb
    clear hn0 hb
    by_cases hlt : k < n
    · have hkl : k < l.length := by rw [← HN.out]; exact hlt
      have e1 : decide ((k : Int) < (n : Int)) = true := by simp; omega
      have e2 : (k : Int) < (n : Int) := by omega
      obtain ⟨bb, off, hA, c0⟩ := (HR.out.below Hb.out).int_at (i := k) (by rw [natI_len]; omega)
      rw [natI_get] at c0
      subst hA
      have hq : 8 * k / 26 < 5 := by omega
      have hle := tgReadTo_le HL.out k (by omega)
      have hle1 := Nat.le_trans (hle (8 * k / 26)) (readB_le k (by omega) _ hq)
      obtain ⟨q0, f0⟩ := nat_cell hn1 (i := 8 * k / 26) (by rw [tgReadTo_len]; exact hq)
      have hd : l.getD k 0 ≤ 255 := by
        rw [List.getD_eq_getElem?_getD, List.getElem?_eq_getElem hkl]
        exact HL.out _ (List.getElem_mem _)
      have hX := shl_lt (k := k) hd
      have HS := Lib.hid (show tgReadTo l (k + 1) = (if 8 * k / 26 < 4 then ((tgReadTo l k).set (8 * k / 26) ((tgReadTo l k).getD (8 * k / 26) 0 + l.getD k 0 * 2 ^ (8 * k % 26) % 67108864)).set (8 * k / 26 + 1) (((tgReadTo l k).set (8 * k / 26) ((tgReadTo l k).getD (8 * k / 26) 0 + l.getD k 0 * 2 ^ (8 * k % 26) % 67108864)).getD (8 * k / 26 + 1) 0 + l.getD k 0 * 2 ^ (8 * k % 26) / 67108864) else (tgReadTo l k).set (8 * k / 26) ((tgReadTo l k).getD (8 * k / 26) 0 + l.getD k 0 * 2 ^ (8 * k % 26) % 67108864)) from rfl)
      have hs : wrap64 (((l.getD k 0 : Nat) : Int) * 2 ^ (8 * k % 26)) = ((l.getD k 0 * 2 ^ (8 * k % 26) : Nat) : Int) := by
        rw [show (((l.getD k 0 : Nat) : Int) * 2 ^ (8 * k % 26)) = ((l.getD k 0 * 2 ^ (8 * k % 26) : Nat) : Int) by rw [Int.natCast_mul, Int.natCast_pow]; rfl]
        exact IntWalk.wrap64_in _ ⟨by omega, by omega⟩
      generalize l.getD k 0 * 2 ^ (8 * k % 26) = X at hs hX HS
      have hY := and_low26 X (by omega)
      have hZ : Value.int .i64 ((X : Int) / 67108864) = Value.int .i64 ((X / 67108864 : Nat) : Int) := by congr 1
      have hZl : X / 67108864 < 64 := by omega
      have hYl : X % 67108864 < 67108864 := Nat.mod_lt _ (by omega)
      generalize X % 67108864 = Y at hY hYl HS
      generalize X / 67108864 = Z at hZ hZl HS
      by_cases hq4 : 8 * k / 26 < 4
      · have e3 : decide (8 * (k : Int) / 26 < 4) = true := by simp; omega
        obtain ⟨q1, f1⟩ := nat_cell hn1 (i := 8 * k / 26 + 1) (by rw [tgReadTo_len]; omega)
        have hle2 := Nat.le_trans (hle (8 * k / 26 + 1)) (readB_le k (by omega) _ (by omega))
        have HS2 := HS.out
        rw [if_pos hq4, getD_set _ _ _ _ (by rw [tgReadTo_len]; exact hq), if_neg (by omega)] at HS2
        have HS3 := Lib.hid HS2
        have hset := nat_set (nat_set hn1 (8 * k / 26) ((tgReadTo l k).getD (8 * k / 26) 0 + Y)) (8 * k / 26 + 1) ((tgReadTo l k).getD (8 * k / 26 + 1) 0 + Z)
        rw [Int.natCast_add, Int.natCast_add, ← HS2] at hset
        have Hset := Lib.hid hset
        generalize (tgReadTo l k).getD (8 * k / 26) 0 = r at q0 hle1 Hset
        generalize (tgReadTo l k).getD (8 * k / 26 + 1) 0 = r2 at q1 hle2 Hset
        generalize l.getD k 0 = d at c0 hs hd
        have e4 : 8 * (k : Int) / 26 + 1 < 5 := by omega
        clear hn1 HS hle HS2 hset hq4 hkl
        go_wp2_with fail
        go_roundw
        case rel => exact ⟨k + 1, by omega, by go_num, Hset.out, (Below.heap_setCell _ ⟨w.heap.size + 1, _, none⟩ _ w.heap.size (by simp)).trans ((Below.heap_setCell _ ⟨w.heap.size + 1, _, none⟩ _ w.heap.size (by simp)).trans Hn0.out), (Hb.out.setCell (by simp) _).setCell (by simp) _⟩
        case measure => simp [intOf]; omega
      · have e3 : decide (8 * (k : Int) / 26 < 4) = false := by simp; omega
        have HS2 := HS.out
        rw [if_neg hq4] at HS2
        have hset := nat_set hn1 (8 * k / 26) ((tgReadTo l k).getD (8 * k / 26) 0 + Y)
        rw [Int.natCast_add, ← HS2] at hset
        have Hset := Lib.hid hset
        generalize (tgReadTo l k).getD (8 * k / 26) 0 = r at q0 hle1 Hset
        generalize l.getD k 0 = d at c0 hs hd
        clear hn1 HS hle HS2 hset hq4 hkl
        go_wp2_with fail
        go_roundw
        case rel => exact ⟨k + 1, by omega, by go_num, Hset.out, (Below.heap_setCell _ ⟨w.heap.size + 1, _, none⟩ _ w.heap.size (by simp)).trans Hn0.out, Hb.out.setCell (by simp) _⟩
        case measure => simp [intOf]; omega
    · obtain rfl : k = n := by omega
      have e1 : decide ((k : Int) < (k : Int)) = false := by simp
      obtain ⟨a, b, c, d, e, he⟩ := five (tgReadTo_len l k)
      rw [he] at hn1
      have hn1' : wr.heap[w.heap.size + 1]? = some (.cells #[.int .i64 (a : Nat), .int .i64 (b : Nat), .int .i64 (c : Nat), .int .i64 (d : Nat), .int .i64 (e : Nat)] 167 (0, 0)) := hn1
      obtain ⟨⟨a0, a1, a2, a3, a4⟩, af⟩ := five_cells hn1'
      obtain ⟨⟨z0, z1, z2, z3, z4⟩, zf⟩ := five_cells Hn0.out
      have zf0 := zf 0
      have zf1 := zf 1
      have zf2 := zf 2
      have zf3 := zf 3
      have zf4 := zf 4
      clear zf af hn1 hn1'
      go_wp2_with fail
      refine bodyPost_ret (resC rfl _ _ w.heap.size (by rfl) _ (load5 (five_set Hn0.out _ _ _ _ _))) rfl ?_
      refine ⟨?_, five_by Hb.out (Nat.le_refl _) _ _ _ _ _⟩
      rw [← HN.out, he]
      rfl
theorem nplus_any (n m : List Nat) (w : World) (hn : n.length = 5) (hm : m.length = 5) (h1 : ∀ j, j < 5 → n.getD j 0 ≤ 4294967296) (h2 : ∀ j, j < 5 → m.getD j 0 ≤ 4294967296) :
    Calls Tryz.prog 143 #[numV n, numV m] w fun e w' => e = .returned (numV (plusTo n m 5)) ∧ Below w.heap.size w w' := by
  obtain ⟨a0, a1, a2, a3, a4, he⟩ := five hn
  obtain ⟨b0, b1, b2, b3, b4, hf⟩ := five hm
  have hbl := three_blk w (ints (natI n)).toArray (ints (natI m)).toArray z5 167 167 167
  obtain ⟨hA, hB, hC, hb⟩ := hbl
  have Hn := Lib.hid hn
  have Hm := Lib.hid hm
  have H1 := Lib.hid h1
  have H2 := Lib.hid h2
  have HA := Lib.hid hA
  have HB := Lib.hid hB
  have HC := Lib.hid hC
  have Hb := Lib.hid hb
  have He := Lib.hid he
  have Hf := Lib.hid hf
  have en : numV n = .agg #[.int .i64 (a0 : Nat), .int .i64 (a1 : Nat), .int .i64 (a2 : Nat), .int .i64 (a3 : Nat), .int .i64 (a4 : Nat)] := by rw [he]; rfl
  have em : numV m = .agg #[.int .i64 (b0 : Nat), .int .i64 (b1 : Nat), .int .i64 (b2 : Nat), .int .i64 (b3 : Nat), .int .i64 (b4 : Nat)] := by rw [hf]; rfl
  rw [en, em]
  have ea : (ints (natI n)).toArray = #[.int .i64 (a0 : Nat), .int .i64 (a1 : Nat), .int .i64 (a2 : Nat), .int .i64 (a3 : Nat), .int .i64 (a4 : Nat)] := by rw [he]; rfl
  have eb : (ints (natI m)).toArray = #[.int .i64 (b0 : Nat), .int .i64 (b1 : Nat), .int .i64 (b2 : Nat), .int .i64 (b3 : Nat), .int .i64 (b4 : Nat)] := by rw [hf]; rfl
  obtain ⟨w1, hw1⟩ : ∃ w1, w1 = ((w.alloc (.cells (ints (natI n)).toArray 167)).alloc (.cells (ints (natI m)).toArray 167)).alloc (.cells z5 167) := ⟨_, rfl⟩
  have Hw1 := Lib.hid hw1
  rw [← hw1] at HA HB HC Hb
  rw [ea, eb] at Hw1
  clear hn hm h1 h2 hA hB hC hb he hf en em ea eb hw1
  go_enter Tryz.func143, Tryz.ntmps143
  go_upto_region 1 with fail
  rw [← Hw1.out]
  clear Hw1
  go_wp2_with fail
  go_loopw [6] (fun x wr => ∃ k : Nat, k ≤ 5 ∧ x = .int .i64 (k : Nat) ∧ wr.heap[w.heap.size]? = some (.cells (ints (natI (plusTo n m k))).toArray 167 (0, 0)) ∧ wr.heap[w.heap.size + 1]? = some (.cells (ints (natI m)).toArray 167 (0, 0)) ∧ wr.heap[w.heap.size + 1 + 1]? = some (.cells z5 167 (0, 0)) ∧ Below w.heap.size w wr) (fun x _ => 5 - (intOf x).toNat)
  case atStart => exact ⟨0, by omega, rfl, HA.out, HB.out, HC.out, Hb.out⟩
  case round =>
    obtain ⟨k, hk, rfl, hA, hB, hC, hb⟩ := hrel
    have HA2 := Lib.hid hA
    have HB2 := Lib.hid hB
    have HC2 := Lib.hid hC
    have Hb2 := Lib.hid hb
    clear hC hb
    by_cases hlt : k < 5
    · have e1 : decide ((k : Int) < (5 : Int)) = true := by simp; omega
      have e2 : (k : Int) < (5 : Int) := by omega
      obtain ⟨q0, f0⟩ := nat_cell hA (i := k) (by rw [plusTo_len, Hn.out]; exact hlt)
      obtain ⟨q1, f1⟩ := nat_cell hB (i := k) (by rw [Hm.out]; exact hlt)
      have hv := plusTo_at n m Hn.out k (by omega) k
      rw [if_neg (by omega)] at hv
      have hset := nat_set hA k ((plusTo n m k).getD k 0 + m.getD k 0)
      rw [Int.natCast_add, show (plusTo n m k).set k ((plusTo n m k).getD k 0 + m.getD k 0) = plusTo n m (k + 1) from rfl, hv] at hset
      rw [hv] at q0
      have Hset := Lib.hid hset
      have x1 := H1.out k hlt
      have x2 := H2.out k hlt
      generalize n.getD k 0 = r at q0 x1 Hset
      generalize m.getD k 0 = r2 at q1 x2 Hset
      clear hA hB hv hset
      go_wp2_with fail
      have Hb3 := Lib.hid (Below.drew (show Below w.heap.size w (wr.setCell ⟨w.heap.size, k, none⟩ (.int .i64 ((r : Int) + (r2 : Int)))) from Hb2.out.setCell (Nat.le_refl _) _))
      go_region_law (fail)
      all_goals
        go_wp2_with fail
        go_roundw
        case rel => exact ⟨k + 1, by omega, by go_num, Hset.out, (Below.heap_setCell _ ⟨w.heap.size, _, none⟩ _ (w.heap.size + 1) (by simp)).trans HB2.out, (Below.heap_setCell _ ⟨w.heap.size, _, none⟩ _ (w.heap.size + 1 + 1) (by simp; omega)).trans HC2.out, Hb3.out⟩
        case measure => simp [intOf]; omega
    · obtain rfl : k = 5 := by omega
      have e1 : decide (((5 : Nat) : Int) < (5 : Int)) = false := by simp
      obtain ⟨a, b, c, d, e, he⟩ := five ((plusTo_len n m 5).trans Hn.out)
      rw [he] at hA
      have hA' : wr.heap[w.heap.size]? = some (.cells #[.int .i64 (a : Nat), .int .i64 (b : Nat), .int .i64 (c : Nat), .int .i64 (d : Nat), .int .i64 (e : Nat)] 167 (0, 0)) := hA
      obtain ⟨⟨a0, a1, a2, a3, a4⟩, af⟩ := five_cells hA'
      obtain ⟨⟨z0, z1, z2, z3, z4⟩, zf⟩ := five_cells HC2.out
      have zf0 := zf 0
      have zf1 := zf 1
      have zf2 := zf 2
      have zf3 := zf 3
      have zf4 := zf 4
      clear zf af hA hA'
      go_wp2_with fail
      refine bodyPost_ret (resC rfl _ _ (w.heap.size + 1 + 1) (by rfl) _ (load5 (five_set HC2.out _ _ _ _ _))) rfl ?_
      refine ⟨?_, five_by Hb2.out (by omega) _ _ _ _ _⟩
      rw [he]
      rfl
theorem getD_out (n : List Nat) (h : n.length = 5) (j : Nat) (hj : 5 ≤ j) : n.getD j 0 = 0 := by
  rw [List.getD_eq_getElem?_getD, List.getElem?_eq_none (by omega)]
  rfl
theorem four_blk (w : World) (a b c d : Array Value) (ta tb tc td : TypeId) : ((((w.alloc (.cells a ta)).alloc (.cells b tb)).alloc (.cells c tc)).alloc (.cells d td)).heap[w.heap.size]? = some (.cells a ta (0, 0)) ∧ ((((w.alloc (.cells a ta)).alloc (.cells b tb)).alloc (.cells c tc)).alloc (.cells d td)).heap[w.heap.size + 1]? = some (.cells b tb (0, 0)) ∧ ((((w.alloc (.cells a ta)).alloc (.cells b tb)).alloc (.cells c tc)).alloc (.cells d td)).heap[w.heap.size + 1 + 1]? = some (.cells c tc (0, 0)) ∧ ((((w.alloc (.cells a ta)).alloc (.cells b tb)).alloc (.cells c tc)).alloc (.cells d td)).heap[w.heap.size + 1 + 1 + 1]? = some (.cells d td (0, 0)) ∧ Below w.heap.size w ((((w.alloc (.cells a ta)).alloc (.cells b tb)).alloc (.cells c tc)).alloc (.cells d td)) := by
  obtain ⟨h1, h2, h3, hb⟩ := three_blk w a b c ta tb tc
  have h4 := heap_alloc_new (((w.alloc (.cells a ta)).alloc (.cells b tb)).alloc (.cells c tc)) (.cells d td)
  rw [World.size_alloc, World.size_alloc, World.size_alloc] at h4
  have al := (Below.refl (((w.alloc (.cells a ta)).alloc (.cells b tb)).alloc (.cells c tc)).heap.size (((w.alloc (.cells a ta)).alloc (.cells b tb)).alloc (.cells c tc))).alloc (Nat.le_refl _) (.cells d td)
  exact ⟨cells_below h1 al, cells_below h2 al, cells_below h3 al, h4, Below.chain hb al⟩
theorem mul_bound {n m : List Nat} (h1 : ∀ j, n.getD j 0 ≤ 536871424) (h2 : ∀ j, m.getD j 0 ≤ 268435712) : ∀ i k, n.getD i 0 * m.getD k 0 ≤ 144115462954287488 := fun i k => Nat.le_trans (Nat.mul_le_mul (h1 i) (h2 k)) (by decide)
theorem ntimes_any (n m : List Nat) (w : World) (hn : n.length = 5) (hm : m.length = 5) (h1 : ∀ j, n.getD j 0 ≤ 536871424) (h2 : ∀ j, m.getD j 0 ≤ 268435712) :
    Calls Tryz.prog 144 #[numV n, numV m] w fun e w' => e = .returned (numV (tgTimesTo n m 5)) ∧ Below w.heap.size w w' := by
  obtain ⟨a0, a1, a2, a3, a4, he⟩ := five hn
  obtain ⟨b0, b1, b2, b3, b4, hf⟩ := five hm
  obtain ⟨hA, hB, hC, hD, hb⟩ := four_blk w (ints (natI n)).toArray (ints (natI m)).toArray z5 z5 167 167 167 167
  have Hn := Lib.hid hn
  have Hm := Lib.hid hm
  have HM := Lib.hid (mul_bound h1 h2)
  have HA := Lib.hid hA
  have HB := Lib.hid hB
  have HC := Lib.hid hC
  have HD := Lib.hid hD
  have Hb := Lib.hid hb
  have en : numV n = .agg #[.int .i64 (a0 : Nat), .int .i64 (a1 : Nat), .int .i64 (a2 : Nat), .int .i64 (a3 : Nat), .int .i64 (a4 : Nat)] := by rw [he]; rfl
  have em : numV m = .agg #[.int .i64 (b0 : Nat), .int .i64 (b1 : Nat), .int .i64 (b2 : Nat), .int .i64 (b3 : Nat), .int .i64 (b4 : Nat)] := by rw [hf]; rfl
  rw [en, em]
  have ea : (ints (natI n)).toArray = #[.int .i64 (a0 : Nat), .int .i64 (a1 : Nat), .int .i64 (a2 : Nat), .int .i64 (a3 : Nat), .int .i64 (a4 : Nat)] := by rw [he]; rfl
  have eb : (ints (natI m)).toArray = #[.int .i64 (b0 : Nat), .int .i64 (b1 : Nat), .int .i64 (b2 : Nat), .int .i64 (b3 : Nat), .int .i64 (b4 : Nat)] := by rw [hf]; rfl
  obtain ⟨w1, hw1⟩ : ∃ w1, w1 = (((w.alloc (.cells (ints (natI n)).toArray 167)).alloc (.cells (ints (natI m)).toArray 167)).alloc (.cells z5 167)).alloc (.cells z5 167) := ⟨_, rfl⟩
  have Hw1 := Lib.hid hw1
  rw [← hw1] at HA HB HC HD Hb
  rw [ea, eb] at Hw1
  clear hn hm h1 h2 hA hB hC hD hb he hf en em ea eb hw1
  go_enter Tryz.func144, Tryz.ntmps144
  go_upto_region 2 with fail
  rw [← Hw1.out]
  clear Hw1
  go_wp2_with fail
  go_loopw [9] (fun x wr => ∃ i : Nat, i ≤ 5 ∧ x = .int .i64 (i : Nat) ∧ wr.heap[w.heap.size]? = some (.cells (ints (natI n)).toArray 167 (0, 0)) ∧ wr.heap[w.heap.size + 1]? = some (.cells (ints (natI m)).toArray 167 (0, 0)) ∧ wr.heap[w.heap.size + 1 + 1]? = some (.cells z5 167 (0, 0)) ∧ wr.heap[w.heap.size + 1 + 1 + 1]? = some (.cells (ints (natI (tgTimesTo n m i))).toArray 167 (0, 0)) ∧ Below w.heap.size w wr) (fun x _ => 5 - (intOf x).toNat)
  case atStart => exact ⟨0, by omega, rfl, HA.out, HB.out, HC.out, HD.out, Hb.out⟩
  case round =>
    obtain ⟨i, hi, rfl, hA, hB, hC, hD, hb⟩ := hrel
    replace HA := Lib.hid hA
    replace HB := Lib.hid hB
    replace HC := Lib.hid hC
    replace HD := Lib.hid hD
    replace Hb := Lib.hid hb
    clear hA hB hC hD hb
    by_cases hlt : i < 5
    · have e1 : decide ((i : Int) < (5 : Int)) = true := by simp; omega
      have e2 : (i : Int) < (5 : Int) := by omega
      go_wp2_with fail
      go_loopw [12] (fun x wr => ∃ k : Nat, k ≤ 5 ∧ x = .int .i64 (k : Nat) ∧ wr.heap[w.heap.size]? = some (.cells (ints (natI n)).toArray 167 (0, 0)) ∧ wr.heap[w.heap.size + 1]? = some (.cells (ints (natI m)).toArray 167 (0, 0)) ∧ wr.heap[w.heap.size + 1 + 1]? = some (.cells z5 167 (0, 0)) ∧ wr.heap[w.heap.size + 1 + 1 + 1]? = some (.cells (ints (natI (timesIn n m (tgTimesTo n m i) i k))).toArray 167 (0, 0)) ∧ Below w.heap.size w wr) (fun x _ => 5 - (intOf x).toNat)
      case atStart => exact ⟨0, by omega, rfl, HA.out, HB.out, HC.out, HD.out, Hb.out⟩
      case round =>
        obtain ⟨k, hk, rfl, hA, hB, hC, hD, hb⟩ := hrel
        replace HA := Lib.hid hA
        replace HB := Lib.hid hB
        replace HC := Lib.hid hC
        replace HD := Lib.hid hD
        replace Hb := Lib.hid hb
        clear hC hb
        by_cases hlk : k < 5
        · have e3 : decide ((k : Int) < (5 : Int)) = true := by simp; omega
          have e4 : (k : Int) < (5 : Int) := by omega
          obtain ⟨q0, f0⟩ := nat_cell hA (i := i) (by rw [Hn.out]; exact hlt)
          obtain ⟨q1, f1⟩ := nat_cell hB (i := k) (by rw [Hm.out]; exact hlk)
          obtain ⟨q2, f2⟩ := nat_cell hD (i := (i + k) % 5) (by rw [timesIn_len, tgTimesTo_len]; exact Nat.mod_lt _ (by omega))
          have ht := timesIn_le (tgTimesTo_len n m i) HM.out i (tgTimesTo_le HM.out i) k ((i + k) % 5)
          have hc := cntIn_le i hlt k (by omega) ((i + k) % 5) (Nat.mod_lt _ (by omega))
          have hle : (timesIn n m (tgTimesTo n m i) i k).getD ((i + k) % 5) 0 ≤ 3602886573857187200 := Nat.le_trans ht (Nat.le_trans (Nat.mul_le_mul_right _ hc) (by decide))
          have hp := HM.out i k
          have HS := Lib.hid (show timesIn n m (tgTimesTo n m i) i (k + 1) = (timesIn n m (tgTimesTo n m i) i k).set ((i + k) % 5) ((timesIn n m (tgTimesTo n m i) i k).getD ((i + k) % 5) 0 + n.getD i 0 * m.getD k 0 * (if 5 ≤ i + k then 5 else 1)) from rfl)
          have hw : wrap64 (((n.getD i 0 : Nat) : Int) * ((m.getD k 0 : Nat) : Int)) = ((n.getD i 0 * m.getD k 0 : Nat) : Int) := by
            rw [← Int.natCast_mul]
            exact IntWalk.wrap64_in _ ⟨by omega, by omega⟩
          have hw2 : IntKind.i64.wrap (((n.getD i 0 : Nat) : Int) * ((m.getD k 0 : Nat) : Int)) = ((n.getD i 0 * m.getD k 0 : Nat) : Int) := by
            rw [← Int.natCast_mul]
            generalize n.getD i 0 * m.getD k 0 = P at hp
            rw [IntKind.wrap_i64]
            omega
          clear ht hc hA hB
          generalize n.getD i 0 * m.getD k 0 = P at hp HS hw hw2
          generalize n.getD i 0 = r at q0 hw hw2
          generalize m.getD k 0 = r2 at q1 hw hw2
          by_cases h5 : 5 ≤ i + k
          · have e5 : decide ((i : Int) + (k : Int) ≥ 5) = true := by simp; omega
            have hset := nat_set hD ((i + k) % 5) ((timesIn n m (tgTimesTo n m i) i k).getD ((i + k) % 5) 0 + P * 5)
            have HS2 := HS.out
            rw [if_pos h5] at HS2
            rw [← HS2, Int.natCast_add, Int.natCast_mul] at hset
            have Hset := Lib.hid hset
            clear HS HS2 hset hD
            generalize (timesIn n m (tgTimesTo n m i) i k).getD ((i + k) % 5) 0 = r3 at q2 hle Hset
            go_wp2_with fail
            go_quiet (fail)
            rename_i nq
            go_wp2_with fail
            go_roundw
            case rel => exact ⟨k + 1, by omega, by go_num, (Below.heap_setCell _ ⟨w.heap.size + 1 + 1 + 1, _, none⟩ _ w.heap.size (by simp; omega)).trans HA.out, (Below.heap_setCell _ ⟨w.heap.size + 1 + 1 + 1, _, none⟩ _ (w.heap.size + 1) (by simp)).trans HB.out, (Below.heap_setCell _ ⟨w.heap.size + 1 + 1 + 1, _, none⟩ _ (w.heap.size + 1 + 1) (by simp)).trans HC.out, Hset.out, (below_drewN Hb.out nq).setCell (by simp; omega) _⟩
            case measure => simp [intOf]; omega
          · have e5 : decide ((i : Int) + (k : Int) ≥ 5) = false := by simp; omega
            have hset := nat_set hD ((i + k) % 5) ((timesIn n m (tgTimesTo n m i) i k).getD ((i + k) % 5) 0 + P)
            have HS2 := HS.out
            rw [if_neg h5, Nat.mul_one] at HS2
            rw [← HS2, Int.natCast_add] at hset
            have Hset := Lib.hid hset
            clear HS HS2 hset hD
            generalize (timesIn n m (tgTimesTo n m i) i k).getD ((i + k) % 5) 0 = r3 at q2 hle Hset
            go_wp2_with fail
            go_quiet (fail)
            rename_i nq
            go_wp2_with fail
            go_roundw
            case rel => exact ⟨k + 1, by omega, by go_num, (Below.heap_setCell _ ⟨w.heap.size + 1 + 1 + 1, _, none⟩ _ w.heap.size (by simp; omega)).trans HA.out, (Below.heap_setCell _ ⟨w.heap.size + 1 + 1 + 1, _, none⟩ _ (w.heap.size + 1) (by simp)).trans HB.out, (Below.heap_setCell _ ⟨w.heap.size + 1 + 1 + 1, _, none⟩ _ (w.heap.size + 1 + 1) (by simp)).trans HC.out, Hset.out, (below_drewN Hb.out nq).setCell (by simp; omega) _⟩
            case measure => simp [intOf]; omega
        · obtain rfl : k = 5 := by omega
          have e3 : decide (((5 : Nat) : Int) < (5 : Int)) = false := by simp
          clear hA hB hD
          go_wp2_with fail
          go_roundw
          case rel => exact ⟨i + 1, by omega, by go_num, HA.out, HB.out, HC.out, HD.out, Hb.out⟩
          case measure => simp [intOf]; omega
    · obtain rfl : i = 5 := by omega
      have e1 : decide (((5 : Nat) : Int) < (5 : Int)) = false := by simp
      obtain ⟨a, b, c, d, e, he⟩ := five (tgTimesTo_len n m 5)
      have hD := HD.out
      rw [he] at hD
      have hD' : wr.heap[w.heap.size + 1 + 1 + 1]? = some (.cells #[.int .i64 (a : Nat), .int .i64 (b : Nat), .int .i64 (c : Nat), .int .i64 (d : Nat), .int .i64 (e : Nat)] 167 (0, 0)) := hD
      obtain ⟨⟨a0, a1, a2, a3, a4⟩, af⟩ := five_cells hD'
      obtain ⟨⟨z0, z1, z2, z3, z4⟩, zf⟩ := five_cells HC.out
      have zf0 := zf 0
      have zf1 := zf 1
      have zf2 := zf 2
      have zf3 := zf 3
      have zf4 := zf 4
      clear zf af hD hD'
      go_wp2_with fail
      refine bodyPost_ret (resC rfl _ _ (w.heap.size + 1 + 1) (by rfl) _ (load5 (five_set HC.out _ _ _ _ _))) rfl ?_
      refine ⟨?_, five_by Hb.out (by omega) _ _ _ _ _⟩
      rw [he]
      rfl
theorem times_fit {n m : List Nat} (h1 : ∀ j, n.getD j 0 ≤ 536871424) (h2 : ∀ j, m.getD j 0 ≤ 268435712) : fitN (tgTimesTo n m 5) := by
  have h : ∀ j, j < 5 → (tgTimesTo n m 5).getD j 0 ≤ 4611686018427387904 := fun j hj => Nat.le_trans (tgTimesTo_le (mul_bound h1 h2) 5 j) (Nat.le_trans (Nat.mul_le_mul_right _ (cntIn_le 4 (by omega) 5 (by omega) j hj)) (by decide))
  exact ⟨h 0 (by omega), h 1 (by omega), h 2 (by omega), h 3 (by omega), h 4 (by omega)⟩

/- Tag2 -/
open Go.RowKit
set_option linter.unusedVariables false
set_option linter.unusedSimpArgs false
set_option maxRecDepth 100000
set_option maxHeartbeats 1000000

theorem nleft_any (n : List Nat) (w : World) (hn : n.length = 5) (hf : fitN n) :
    Calls Tryz.prog 145 #[numV n] w fun e w' => e = .returned (numV (leftN n)) ∧ Below w.heap.size w w' := by
  obtain ⟨a0, a1, a2, a3, a4, he⟩ := five hn
  obtain ⟨hA, hB, hb⟩ := two_blk w (ints (natI n)).toArray z5 167 167
  have Hn := Lib.hid hn
  have Hf := Lib.hid hf
  have HA := Lib.hid hA
  have HB := Lib.hid hB
  have Hb := Lib.hid hb
  have en : numV n = .agg #[.int .i64 (a0 : Nat), .int .i64 (a1 : Nat), .int .i64 (a2 : Nat), .int .i64 (a3 : Nat), .int .i64 (a4 : Nat)] := by rw [he]; rfl
  rw [en]
  have ea : (ints (natI n)).toArray = #[.int .i64 (a0 : Nat), .int .i64 (a1 : Nat), .int .i64 (a2 : Nat), .int .i64 (a3 : Nat), .int .i64 (a4 : Nat)] := by rw [he]; rfl
  obtain ⟨w1, hw1⟩ : ∃ w1, w1 = (w.alloc (.cells (ints (natI n)).toArray 167)).alloc (.cells z5 167) := ⟨_, rfl⟩
  have Hw1 := Lib.hid hw1
  rw [← hw1] at HA HB Hb
  rw [ea] at Hw1
  obtain ⟨R, hR⟩ : ∃ R, R = leftN n := ⟨_, rfl⟩
  have HR := Lib.hid hR
  rw [← hR]
  clear hn hf hA hB hb he en ea hw1 hR
  go_enter Tryz.func145, Tryz.ntmps145
  go_upto_region 1 with fail
  rw [← Hw1.out]
  clear Hw1
  go_wp2_with fail
  go_loopg [3] (2 * valN n + 1) (fun gk x wr => ∃ (o : Nat) (ns : List Nat), x = .int .i64 (o : Nat) ∧ ns.length = 5 ∧ fitN ns ∧ valN ns % primeP = valN n % primeP ∧ (o = 0 → lowN ns) ∧ 2 * valN ns + (if o = 0 then 0 else 1) ≤ gk ∧ wr.heap[w.heap.size]? = some (.cells (ints (natI ns)).toArray 167 (0, 0)) ∧ wr.heap[w.heap.size + 1]? = some (.cells z5 167 (0, 0)) ∧ Below w.heap.size w wr)
  case atStart => exact ⟨1, n, rfl, Hn.out, Hf.out, rfl, by omega, by simp, HA.out, HB.out, Hb.out⟩
  case round =>
    obtain ⟨o, ns, rfl, hl, hfit, hval, hlow, hgk, hA, hB, hb⟩ := hrel
    replace Hn := Lib.hid hl
    replace Hf := Lib.hid hfit
    have Hv := Lib.hid hval
    have Hlow := Lib.hid hlow
    have Hgk := Lib.hid hgk
    replace HA := Lib.hid hA
    replace HB := Lib.hid hB
    replace Hb := Lib.hid hb
    clear hl hfit hval hlow hgk hA hB hb
    by_cases ho : o = 0
    · have Hl := Lib.hid (Hlow.out ho)
      have Hp := Lib.hid (show leftN ns = R by rw [HR.out, leftN, leftN, Hv.out])
      subst ho
      clear Hgk Hv HR Hlow
      obtain ⟨⟨z0, z1, z2, z3, z4⟩, zf⟩ := five_cells HB.out
      have zf0 := zf 0
      have zf1 := zf 1
      have zf2 := zf 2
      have zf3 := zf 3
      have zf4 := zf 4
      obtain ⟨a, b, c, d, e, he⟩ := five Hn.out
      have hA' : wr.heap[w.heap.size]? = some (.cells #[.int .i64 (a : Nat), .int .i64 (b : Nat), .int .i64 (c : Nat), .int .i64 (d : Nat), .int .i64 (e : Nat)] 167 (0, 0)) := by rw [HA.out, he]; rfl
      have hl := Hl.out
      have htop := left_top Hn.out Hl.out
      have hlo := left_low Hn.out Hl.out
      rw [he] at hl htop hlo
      simp only [lowN, List.getD_cons_zero, List.getD_cons_succ] at hl
      rw [he] at Hp
      have Htop := Lib.hid htop
      have Hlo := Lib.hid hlo
      obtain ⟨⟨y0, y1, y2, y3, y4⟩, yf⟩ := five_cells hA'
      clear zf yf hA' he htop hlo Hl
      by_cases t0 : 67108859 ≤ a
      · have d0 : decide ((a : Int) ≥ 67108859) = true := by simp; omega
        by_cases t1 : b = 67108863
        · have d1 : ((b : Int) == 67108863) = true := by simp; omega
          by_cases t2 : c = 67108863
          · have d2 : ((c : Int) == 67108863) = true := by simp; omega
            by_cases t3 : d = 67108863
            · have d3 : ((d : Int) == 67108863) = true := by simp; omega
              by_cases t4 : e = 67108863
              · have d4 : ((e : Int) == 67108863) = true := by simp; omega
                have HT := Lib.hid (Htop.out (by simp [topB, t0, t1, t2, t3, t4]))
                have Hc := Lib.hid (show wrap64 ((a : Int) - 67108859) = ((a - 67108859 : Nat) : Int) by rw [IntWalk.wrap64_in _ ⟨by omega, by omega⟩]; omega)
                clear t1 t2 t3 t4
                clear Hlo Htop hl
                go_wp2_with fail
                refine bodyPost_ret (resC rfl _ _ (w.heap.size + 1) (by rfl) _ (load5 (five_set HB.out _ _ _ _ _))) rfl ?_
                refine ⟨?_, five_by Hb.out (by omega) _ _ _ _ _⟩
                rw [← Hp.out, ← HT.out]
                rw [Hc.out]
                rfl
              · have d4 : ((e : Int) == 67108863) = false := by simp; omega
                have HT := Lib.hid (Hlo.out (by simp [topB, t0, t1, t2, t3, t4]))
                clear t0 t1 t2 t3 t4
                clear Hlo Htop hl
                go_wp2_with fail
                refine bodyPost_ret (resC rfl _ _ (w.heap.size + 1) (by rfl) _ (load5 (five_set HB.out _ _ _ _ _))) rfl ?_
                refine ⟨?_, five_by Hb.out (by omega) _ _ _ _ _⟩
                rw [← Hp.out, ← HT.out]
                rfl
            · have d3 : ((d : Int) == 67108863) = false := by simp; omega
              have HT := Lib.hid (Hlo.out (by simp [topB, t0, t1, t2, t3]))
              clear t0 t1 t2 t3
              clear Hlo Htop hl
              go_wp2_with fail
              refine bodyPost_ret (resC rfl _ _ (w.heap.size + 1) (by rfl) _ (load5 (five_set HB.out _ _ _ _ _))) rfl ?_
              refine ⟨?_, five_by Hb.out (by omega) _ _ _ _ _⟩
              rw [← Hp.out, ← HT.out]
              rfl
          · have d2 : ((c : Int) == 67108863) = false := by simp; omega
            have HT := Lib.hid (Hlo.out (by simp [topB, t0, t1, t2]))
            clear t0 t1 t2
            clear Hlo Htop hl
            go_wp2_with fail
            refine bodyPost_ret (resC rfl _ _ (w.heap.size + 1) (by rfl) _ (load5 (five_set HB.out _ _ _ _ _))) rfl ?_
            refine ⟨?_, five_by Hb.out (by omega) _ _ _ _ _⟩
            rw [← Hp.out, ← HT.out]
            rfl
        · have d1 : ((b : Int) == 67108863) = false := by simp; omega
          have HT := Lib.hid (Hlo.out (by simp [topB, t0, t1]))
          clear t0 t1
          clear Hlo Htop hl
          go_wp2_with fail
          refine bodyPost_ret (resC rfl _ _ (w.heap.size + 1) (by rfl) _ (load5 (five_set HB.out _ _ _ _ _))) rfl ?_
          refine ⟨?_, five_by Hb.out (by omega) _ _ _ _ _⟩
          rw [← Hp.out, ← HT.out]
          rfl
      · have d0 : decide ((a : Int) ≥ 67108859) = false := by simp; omega
        have HT := Lib.hid (Hlo.out (by simp [topB, t0]))
        clear t0
        clear Hlo Htop hl
        go_wp2_with fail
        refine bodyPost_ret (resC rfl _ _ (w.heap.size + 1) (by rfl) _ (load5 (five_set HB.out _ _ _ _ _))) rfl ?_
        refine ⟨?_, five_by Hb.out (by omega) _ _ _ _ _⟩
        rw [← Hp.out, ← HT.out]
        rfl
    · have e1 : ((o : Int) != 0) = true := by simp; omega
      have Ho := Lib.hid ho
      clear Hlow
      go_wp2_with fail
      go_loopw [3, 7] (fun x y wr => ∃ k : Nat, k ≤ 5 ∧ y = .int .i64 (k : Nat) ∧ x = .int .i64 (((passTo ns k).1 : Nat) : Int) ∧ wr.heap[w.heap.size]? = some (.cells (ints (natI (passTo ns k).2)).toArray 167 (0, 0)) ∧ wr.heap[w.heap.size + 1]? = some (.cells z5 167 (0, 0)) ∧ Below w.heap.size w wr) (fun _ y _ => 5 - (intOf y).toNat)
      case atStart => exact ⟨0, by omega, rfl, rfl, HA.out, HB.out, Hb.out⟩
      case round =>
        obtain ⟨k, hk, rfl, rfl, hA, hB, hb⟩ := hrel
        replace HA := Lib.hid hA
        replace HB := Lib.hid hB
        replace Hb := Lib.hid hb
        clear hB hb
        obtain ⟨hp1, hp2⟩ := passTo_le Hn.out Hf.out k hk
        by_cases hlt : k < 5
        · have e2 : decide ((k : Int) < (5 : Int)) = true := by simp; omega
          have e3 : (k : Int) < (5 : Int) := by omega
          obtain ⟨q0, f0⟩ := nat_cell hA (i := k) (by rw [passTo_len, Hn.out]; exact hlt)
          have hr := fitN_get hp2 k hlt
          have HS := Lib.hid (show passTo ns (k + 1) = (((passTo ns k).2.getD k 0 + (passTo ns k).1) / 67108864, (passTo ns k).2.set k (((passTo ns k).2.getD k 0 + (passTo ns k).1) % 67108864)) from rfl)
          have hset := nat_set (nat_set hA k ((passTo ns k).2.getD k 0 + (passTo ns k).1)) k (((passTo ns k).2.getD k 0 + (passTo ns k).1) % 67108864)
          rw [List.set_set, Int.natCast_add] at hset
          have Hset := Lib.hid hset
          generalize (passTo ns k).2.getD k 0 = r at q0 hr HS Hset
          generalize (passTo ns k).1 = p at hp1 HS Hset ⊢
          have hY := and_low26 (r + p) (by omega)
          have HD := Lib.hid (show Value.int .i64 (((r : Int) + (p : Int)) / 67108864) = Value.int .i64 (((r + p) / 67108864 : Nat) : Int) by congr 1)
          rw [Int.natCast_add] at hY
          generalize (r + p) % 67108864 = Y at hY HS Hset
          clear hA hp2 hset
          go_wp2_with fail
          go_roundw
          case rel => exact ⟨k + 1, by omega, by go_num, by rw [HS.out]; exact HD.out, by rw [HS.out]; exact Hset.out, (Below.heap_setCell _ ⟨w.heap.size, _, none⟩ _ (w.heap.size + 1) (by simp)).trans ((Below.heap_setCell _ ⟨w.heap.size, _, none⟩ _ (w.heap.size + 1) (by simp)).trans HB.out), (Hb.out.setCell (Nat.le_refl _) _).setCell (Nat.le_refl _) _⟩
          case measure => simp [intOf]; omega
        · obtain rfl : k = 5 := by omega
          have e2 : decide (((5 : Nat) : Int) < (5 : Int)) = false := by simp
          obtain ⟨q0, f0⟩ := nat_cell hA (i := 0) (by rw [passTo_len, Hn.out]; omega)
          have hr := fitN_get hp2 0 (by omega)
          have hset := nat_set hA 0 ((passTo ns 5).2.getD 0 0 + 5 * (passTo ns 5).1)
          rw [show (passTo ns 5).2.set 0 ((passTo ns 5).2.getD 0 0 + 5 * (passTo ns 5).1) = passN ns from rfl, Int.natCast_add, Int.natCast_mul] at hset
          have Hset := Lib.hid hset
          have Hval := Lib.hid (passN_val Hn.out)
          have Hin := Lib.hid (passN_in Hn.out)
          have Hless := Lib.hid (fun h => passN_less Hn.out h)
          generalize (passTo ns 5).2.getD 0 0 = r at q0 hr Hset
          generalize (passTo ns 5).1 = p at hp1 Hset Hval Hin Hless ⊢
          clear hA hp2 hset
          have hlen := (passN_len ns).trans Hn.out
          have hfit := passN_fit Hn.out Hf.out
          have hmod := (passN_mod Hn.out).trans Hv.out
          have Hl2 := Lib.hid hlen
          have Hf2 := Lib.hid hfit
          have Hv2 := Lib.hid hmod
          clear hlen hfit hmod
          go_wp2_with fail
          go_roundg (2 * valN (passN ns) + (if p = 0 then 0 else 1))
          case measure =>
            have h1 := Hgk.out
            have h2 := Hval.out
            have h3 := Hless.out
            rw [if_neg Ho.out] at h1
            by_cases hp : p = 0
            · rw [if_pos hp]; subst hp; omega
            · rw [if_neg hp]; have := h3 hp; omega
          case rel =>
            exact ⟨p, passN ns, rfl, Hl2.out, Hf2.out, Hv2.out, fun h => by have := Hin.out; subst h; exact ⟨by omega, this.2⟩, Nat.le_refl _, Hset.out, (Below.heap_setCell _ ⟨w.heap.size, _, none⟩ _ (w.heap.size + 1) (by simp)).trans HB.out, Hb.out.setCell (Nat.le_refl _) _⟩

/- Tag3 -/
open Go.RowKit
set_option linter.unusedVariables false
set_option linter.unusedSimpArgs false
set_option maxRecDepth 100000
set_option maxHeartbeats 1000000

theorem or_53 (a b : Nat) (ha : a < 9007199254740992) (hb : b < 9007199254740992) : bits .or .i64 (a : Int) (b : Int) = ((a ||| b : Nat) : Int) := by
  have hx : a ||| b < 2 ^ 53 := Nat.or_lt_two_pow (by omega) (by omega)
  show IntKind.i64.wrap ((BitVec.ofInt 64 (a : Int) ||| BitVec.ofInt 64 (b : Int)).toNat : Int) = _
  rw [BitVec.toNat_or, toNat_ofInt64 a (by omega), toNat_ofInt64 b (by omega), IntKind.wrap_i64]
  omega
theorem and_255 (a : Nat) (h : a < 9223372036854775808) : bits .and .i64 (a : Int) 255 = ((a % 256 : Nat) : Int) := by
  show IntKind.i64.wrap ((BitVec.ofInt 64 (a : Int) &&& BitVec.ofInt 64 ((255 : Nat) : Int)).toNat : Int) = _
  rw [BitVec.toNat_and, toNat_ofInt64 a h, toNat_ofInt64 255 (by omega), show (255 : Nat) = 2 ^ 8 - 1 from rfl, Nat.and_two_pow_sub_one_eq_mod, IntKind.wrap_i64]
  omega
theorem shl_fit (B b : Nat) (hB : B < 67108864) : B * 2 ^ (26 - b) < 4503599627370496 := by
  have h : 2 ^ (26 - b) ≤ 2 ^ 26 := Nat.pow_le_pow_right (by omega) (by omega)
  have h3 := Nat.mul_le_mul (Nat.le_of_lt_succ (Nat.lt_succ_of_lt hB)) h
  have h4 : B * 2 ^ 26 < 67108864 * 2 ^ 26 := Nat.mul_lt_mul_of_pos_right hB (by decide)
  exact Nat.lt_of_le_of_lt (Nat.mul_le_mul_left B h) h4
theorem rd_digs {w : World} {g : Nat} {t : TypeId} {n : List Nat} (h : w.rowIs g t 17 (fun j => .int .i64 ((digN n j : Nat) : Int))) : Rd w (some ⟨g, 0, none⟩) (ints (natI (digL n))) := fun j u hu => by
  have hj : j < 17 := by
    rcases Nat.lt_or_ge j 17 with h | h
    · exact h
    · simp [ints, natI, digL, h] at hu
  refine ⟨g, 0, rfl, ?_⟩
  rw [Nat.zero_add, h.cell hj]
  have : u = .int .i64 ((digN n j : Nat) : Int) := by simpa [ints, natI, digL, hj, eq_comm] using hu
  rw [this]
theorem ndigits_any (n : List Nat) (w : World) (hn : n.length = 5) (hl : lowN n) :
    Calls Tryz.prog 146 #[numV n] w fun e w' => ∃ A, e = .returned (.slice A 17 17) ∧ Rd w' A (ints (natI (digL n))) ∧ Below w.heap.size w w' := by
  obtain ⟨a0, a1, a2, a3, a4, he⟩ := five hn
  have hA := heap_alloc_new w (.cells (ints (natI n)).toArray 167)
  have hb := (Below.refl w.heap.size w).alloc (Nat.le_refl _) (.cells (ints (natI n)).toArray 167)
  have hlw : ∀ j, j < 5 → n.getD j 0 < 67108864 := fun j hj => by
    match j, hj with
    | 0, _ => exact hl.1
    | 1, _ => exact hl.2.1
    | 2, _ => exact hl.2.2.1
    | 3, _ => exact hl.2.2.2.1
    | 4, _ => exact hl.2.2.2.2
  have Hn := Lib.hid hn
  have Hl := Lib.hid hlw
  have HA := Lib.hid hA
  have Hb := Lib.hid hb
  have en : numV n = .agg #[.int .i64 (a0 : Nat), .int .i64 (a1 : Nat), .int .i64 (a2 : Nat), .int .i64 (a3 : Nat), .int .i64 (a4 : Nat)] := by rw [he]; rfl
  rw [en]
  have ea : (ints (natI n)).toArray = #[.int .i64 (a0 : Nat), .int .i64 (a1 : Nat), .int .i64 (a2 : Nat), .int .i64 (a3 : Nat), .int .i64 (a4 : Nat)] := by rw [he]; rfl
  obtain ⟨w1, hw1⟩ : ∃ w1, w1 = w.alloc (.cells (ints (natI n)).toArray 167) := ⟨_, rfl⟩
  have Hw1 := Lib.hid hw1
  have hsz : w1.heap.size = w.heap.size + 1 := by rw [hw1]; simp
  rw [← hw1] at HA Hb
  rw [ea] at Hw1
  clear hn hl hlw hA hb he en ea hw1
  have hmk : (Instr.makeSlice 71 (.int .i64 17) (.int .i64 17)).run Tryz.prog w1 = .ok (.slice (some ⟨w1.heap.size, 0, none⟩) 17 17) (w1.alloc (.cells (madeCells #[.int .i64 0] 17) 3)) := run_make_row' (P := Tryz.prog) 71 3 (.int .i64 0) 8 Tryz.underlying71 int_info rfl .i64 .i64 17 (by omega) (by omega) w1
  have Hsz := Lib.hid hsz
  clear hsz
  go_enter Tryz.func146, Tryz.ntmps146
  go_upto_region 1 with fail
  rw [← Hw1.out]
  clear Hw1
  go_wp2_with fail
  have hal := (Below.refl w1.heap.size w1).alloc (Nat.le_refl _) (.cells (madeCells #[.int .i64 0] 17) 3)
  replace HA := hblk_below HA hal
  replace Hb := Lib.hid (Hb.out.trans (hal.mono Hb.out.size))
  clear hal
  go_loopw [11] (fun x wr => ∃ k : Nat, k ≤ 17 ∧ x = .int .i64 (k : Nat) ∧ wr.rowIs w1.heap.size 3 17 (fun j => .int .i64 (if j < k then ((digN n j : Nat) : Int) else 0)) ∧ wr.heap[w.heap.size]? = some (.cells (ints (natI n)).toArray 167 (0, 0)) ∧ Below w.heap.size w wr) (fun x _ => 17 - (intOf x).toNat)
  case atStart => exact ⟨0, by omega, rfl, World.rowIs_made _ _ _ _, HA.out, Hb.out⟩
  case round =>
    obtain ⟨k, hk, rfl, hrow, hA, hb⟩ := hrel
    have Hrow := Lib.hid hrow
    replace HA := Lib.hid hA
    replace Hb := Lib.hid hb
    clear hb
    by_cases hlt : k < 17
    · have e1 : decide ((k : Int) < (17 : Int)) = true := by simp; omega
      have e2 : (k : Int) < (17 : Int) := by omega
      have hc := hrow.cell (i := k) hlt
      have hf := hrow.frozen k
      have hq : 8 * k / 26 < 5 := by omega
      obtain ⟨q0, f0⟩ := nat_cell hA (i := 8 * k / 26) (by rw [Hn.out]; exact hq)
      have ha := Hl.out _ hq
      have HD := Lib.hid (show digN n k = (if 8 * k / 26 < 4 then n.getD (8 * k / 26) 0 / 2 ^ (8 * k % 26) ||| n.getD (8 * k / 26 + 1) 0 * 2 ^ (26 - 8 * k % 26) else n.getD (8 * k / 26) 0 / 2 ^ (8 * k % 26)) % 256 from rfl)
      clear hrow
      have hb24 : 8 * k % 26 ≤ 24 := by omega
      by_cases hq4 : 8 * k / 26 < 4
      · have e3 : decide (8 * (k : Int) / 26 < 4) = true := by simp; omega
        have e4 : 8 * (k : Int) / 26 + 1 < 5 := by omega
        obtain ⟨q1, f1⟩ := nat_cell hA (i := 8 * k / 26 + 1) (by rw [Hn.out]; omega)
        have hb2 := Hl.out (8 * k / 26 + 1) (by omega)
        have HD2 := HD.out
        rw [if_pos hq4] at HD2
        generalize n.getD (8 * k / 26) 0 = A at q0 ha HD2
        generalize n.getD (8 * k / 26 + 1) 0 = B at q1 hb2 HD2
        have Hv := Lib.hid (show bits .and .i64 (bits .or .i64 ((A : Int) / 2 ^ (8 * k % 26)) (wrap64 ((B : Int) * 2 ^ (26 - 8 * k % 26)))) 255 = ((digN n k : Nat) : Int) by
          have h1 := shl_fit B (8 * k % 26) hb2
          have h2 : A / 2 ^ (8 * k % 26) < 67108864 := Nat.lt_of_le_of_lt (Nat.div_le_self _ _) ha
          rw [show (A : Int) / 2 ^ (8 * k % 26) = ((A / 2 ^ (8 * k % 26) : Nat) : Int) by rw [Int.natCast_ediv, Int.natCast_pow]; rfl,
            show (B : Int) * 2 ^ (26 - 8 * k % 26) = ((B * 2 ^ (26 - 8 * k % 26) : Nat) : Int) by rw [Int.natCast_mul, Int.natCast_pow]; rfl, HD2]
          generalize B * 2 ^ (26 - 8 * k % 26) = Y at h1
          generalize A / 2 ^ (8 * k % 26) = X at h2
          have h3 : X ||| Y < 2 ^ 53 := Nat.or_lt_two_pow (by omega) (by omega)
          rw [IntWalk.wrap64_in _ ⟨by omega, by omega⟩, or_53 _ _ (by omega) (by omega), and_255 _ (by omega)])
        clear hA HD2 HD
        go_wp2_with fail
        go_roundw
        case rel =>
          refine ⟨k + 1, by omega, by go_num, ?_, (Below.heap_setCell _ ⟨w1.heap.size, _, none⟩ _ w.heap.size (by have := Hsz.out; simp; omega)).trans HA.out, Hb.out.setCell (by have := Hsz.out; simp; omega) _⟩
          rw [Hv.out]
          refine (Hrow.out.set k _).congr fun j _ => ?_
          by_cases hj : j = k
          · rw [if_pos hj, if_pos (by omega), hj]
          · rw [if_neg hj]
            by_cases h2 : j < k
            · rw [if_pos h2, if_pos (by omega)]
            · rw [if_neg h2, if_neg (by omega)]
        case measure => simp [intOf]; omega
      · have e3 : decide (8 * (k : Int) / 26 < 4) = false := by simp; omega
        have HD2 := HD.out
        rw [if_neg hq4] at HD2
        generalize n.getD (8 * k / 26) 0 = A at q0 ha HD2
        have Hv := Lib.hid (show bits .and .i64 ((A : Int) / 2 ^ (8 * k % 26)) 255 = ((digN n k : Nat) : Int) by
          have h2 : A / 2 ^ (8 * k % 26) < 67108864 := Nat.lt_of_le_of_lt (Nat.div_le_self _ _) ha
          rw [show (A : Int) / 2 ^ (8 * k % 26) = ((A / 2 ^ (8 * k % 26) : Nat) : Int) by rw [Int.natCast_ediv, Int.natCast_pow]; rfl, HD2]
          generalize A / 2 ^ (8 * k % 26) = X at h2
          rw [and_255 _ (by omega)])
        clear hA HD2 HD
        go_wp2_with fail
        go_roundw
        case rel =>
          refine ⟨k + 1, by omega, by go_num, ?_, (Below.heap_setCell _ ⟨w1.heap.size, _, none⟩ _ w.heap.size (by have := Hsz.out; simp; omega)).trans HA.out, Hb.out.setCell (by have := Hsz.out; simp; omega) _⟩
          rw [Hv.out]
          refine (Hrow.out.set k _).congr fun j _ => ?_
          by_cases hj : j = k
          · rw [if_pos hj, if_pos (by omega), hj]
          · rw [if_neg hj]
            by_cases h2 : j < k
            · rw [if_pos h2, if_pos (by omega)]
            · rw [if_neg h2, if_neg (by omega)]
        case measure => simp [intOf]; omega
    · obtain rfl : k = 17 := by omega
      have e1 : decide (((17 : Nat) : Int) < (17 : Int)) = false := by simp
      have Hrd := Lib.hid (rd_digs (n := n) (hrow.congr fun j hj => by rw [if_pos hj]))
      clear hrow hA
      go_wp2_with fail
      go_ret
      exact ⟨_, rfl, Hrd.out, Hb.out⟩
theorem nat_at {w : World} {A : Option Addr} {l : List Nat} (h : Rd w A (ints (natI l))) {i : Nat} (hi : i < l.length) : ∃ b off, A = some ⟨b, off, none⟩ ∧ w.cell? ⟨b, off + i, none⟩ = some (.int .i64 ((l.getD i 0 : Nat) : Int)) := by
  obtain ⟨b, off, hA, hc⟩ := h.int_at (i := i) (by rw [natI_len]; exact hi)
  rw [natI_get] at hc
  exact ⟨b, off, hA, hc⟩
theorem isRow_yes (A : Option Addr) (c : Nat) (l : List Nat) (w : World) (hr : Rd w A (ints (natI l))) (hc : 17 ≤ c) (hc9 : c ≤ 9223372036854775807) (hp : tgRowP l) :
    Calls Tryz.prog 141 #[.slice A 17 c] w fun e w' => e = .returned (.bool true) ∧ w' = w := by
  obtain ⟨h17, hle, htop⟩ := hp
  have hget : ∀ i, i < 17 → ∃ b off, A = some ⟨b, off, none⟩ ∧ w.cell? ⟨b, off + i, none⟩ = some (.int .i64 ((l.getD i 0 : Nat) : Int)) := fun i hi => nat_at hr (by omega)
  obtain ⟨b, off, hA, _⟩ := hget 0 (by omega)
  subst hA
  have hcell : ∀ i, i < 17 → w.cell? ⟨b, off + i, none⟩ = some (.int .i64 ((l.getD i 0 : Nat) : Int)) := fun i hi => by
    obtain ⟨b', off', h1, h2⟩ := hget i hi
    injection h1 with h1
    injection h1 with h3 h4
    subst h3 h4
    exact h2
  have hdle : ∀ i, i < 17 → l.getD i 0 ≤ 255 := fun i hi => by
    rw [List.getD_eq_getElem?_getD, List.getElem?_eq_getElem (by omega)]
    exact hle _ (List.getElem_mem _)
  have HC := Lib.hid hcell
  have HD := Lib.hid hdle
  have HT := Lib.hid htop
  clear hr h17 hle htop hget hcell hdle
  go_enter Tryz.func141, Tryz.ntmps141
  go_wp2_with fail
  go_loopw [12] (fun x wr => ∃ k : Nat, k ≤ 17 ∧ x = .int .i64 (k : Nat) ∧ wr = w) (fun x _ => 17 - (intOf x).toNat)
  case atStart => exact ⟨0, by omega, rfl, rfl⟩
  case round =>
    obtain ⟨k, hk, rfl, rfl⟩ := hrel
    by_cases hlt : k < 17
    · have e1 : decide ((k : Int) < (17 : Int)) = true := by simp; omega
      have e2 : (k : Int) < (17 : Int) := by omega
      have c0 := HC.out k hlt
      have d0 := HD.out k hlt
      generalize l.getD k 0 = x at c0 d0
      have e3 : decide ((x : Int) < 0) = false := by simp
      have e4 : decide ((x : Int) > 255) = false := by simp; omega
      go_wp2_with fail
      go_roundw
      case rel => exact ⟨k + 1, by omega, by go_num, trivial⟩
      case measure => simp [intOf]; omega
    · obtain rfl : k = 17 := by omega
      have e1 : decide (((17 : Nat) : Int) < (17 : Int)) = false := by simp
      have c16 := HC.out 16 (by omega)
      have d16 := HD.out 16 (by omega)
      have HT2 := HT.out
      generalize l.getD 16 0 = x at c16 d16 HT2
      by_cases h3 : x < 3
      · have e3 : decide ((x : Int) < 3) = true := by simp; omega
        clear HT2
        go_wp2_with fail
        go_ret
        exact ⟨rfl, rfl⟩
      · have e3 : decide ((x : Int) < 3) = false := by simp; omega
        have hx : x = 3 := by rcases HT2 with h | ⟨h, _⟩ <;> omega
        have HT3 := Lib.hid (show (∃ i, 1 ≤ i ∧ i ≤ 15 ∧ l.getD i 0 < 255) ∨ l.getD 0 0 < 251 by rcases HT2 with h | ⟨_, h⟩; exact absurd h h3; exact h)
        clear HT HT2 h3
        subst hx
        have e4 : decide (((3 : Nat) : Int) > 3) = false := by simp
        go_wp2_with fail
        go_loopw [34] (fun x wv => ∃ k : Nat, k ≤ 15 ∧ x = .int .i64 (k : Nat) ∧ (∀ i, 1 ≤ i → i ≤ k → ¬ l.getD i 0 < 255) ∧ wv = wr) (fun x _ => 15 - (intOf x).toNat)
        case atStart => exact ⟨0, by omega, rfl, fun i h1 h2 => by omega, rfl⟩
        case round =>
          obtain ⟨k, hk, rfl, hno, rfl⟩ := hrel
          have HNo := Lib.hid hno
          clear hno
          by_cases hlt : k < 15
          · have e5 : decide ((k : Int) < (15 : Int)) = true := by simp; omega
            have e6 : (k : Int) < (15 : Int) := by omega
            have c0 := HC.out (k + 1) (by omega)
            rw [show off + (k + 1) = off + 1 + k by omega] at c0
            by_cases hx : l.getD (k + 1) 0 < 255
            · generalize l.getD (k + 1) 0 = x at c0 hx
              have e7 : decide ((x : Int) < 255) = true := by simp; omega
              clear hx
              go_wp2_with fail
              go_ret
              exact ⟨rfl, rfl⟩
            · have HN2 := Lib.hid (show ∀ i, 1 ≤ i → i ≤ k + 1 → ¬ l.getD i 0 < 255 from fun i h1 h2 => by
                by_cases h : i = k + 1
                · rw [h]; exact hx
                · exact HNo.out i h1 (by omega))
              generalize l.getD (k + 1) 0 = x at c0 hx
              have e7 : decide ((x : Int) < 255) = false := by simp; omega
              clear hx
              go_wp2_with fail
              go_roundw
              case rel => exact ⟨k + 1, by omega, by go_num, HN2.out, trivial⟩
              case measure => simp [intOf]; omega
          · obtain rfl : k = 15 := by omega
            have e5 : decide (((15 : Nat) : Int) < (15 : Int)) = false := by simp
            have c0 := HC.out 0 (by omega)
            rw [Nat.add_zero] at c0
            have h0 : l.getD 0 0 < 251 := by
              rcases HT3.out with ⟨i, h1, h2, h⟩ | h
              · exact absurd h (HNo.out i h1 h2)
              · exact h
            generalize l.getD 0 0 = x at c0 h0
            have e7 : decide ((x : Int) < 251) = true := by simp; omega
            clear h0
            go_wp2_with fail
            go_ret
            exact ⟨rfl, rfl⟩

/- Tag4 -/
open Go.RowKit
set_option linter.unusedVariables false
set_option linter.unusedSimpArgs false
set_option maxRecDepth 100000
set_option maxHeartbeats 1000000

def placeA : List Nat := [3, 7, 11, 15]
def placeC : List Nat := [4, 8, 12]
def clampA (l : List UInt8) : Nat → List UInt8
  | 0 => l
  | k + 1 => (clampA l k).set (placeA.getD k 0) ((clampA l k).getD (placeA.getD k 0) 0 % 16)
def clampC (l : List UInt8) : Nat → List UInt8
  | 0 => l
  | k + 1 => (clampC l k).set (placeC.getD k 0) ((clampC l k).getD (placeC.getD k 0) 0 - (clampC l k).getD (placeC.getD k 0) 0 % 4)
theorem clampA_len (l : List UInt8) : ∀ k, (clampA l k).length = l.length
  | 0 => rfl
  | k + 1 => by rw [clampA, List.length_set, clampA_len l k]
theorem clampC_len (l : List UInt8) : ∀ k, (clampC l k).length = l.length
  | 0 => rfl
  | k + 1 => by rw [clampC, List.length_set, clampC_len l k]
def clampL (l : List UInt8) : List UInt8 := clampC (clampA l 4) 3
theorem clampL_len (l : List UInt8) : (clampL l).length = l.length := by rw [clampL, clampC_len, clampA_len]
theorem placeA_lt (k : Nat) : placeA.getD k 0 < 16 := by
  match k with
  | 0 | 1 | 2 | 3 => decide
  | k + 4 => simp [placeA]
theorem placeC_lt (k : Nat) : placeC.getD k 0 < 16 := by
  match k with
  | 0 | 1 | 2 => decide
  | k + 3 => simp [placeC]
theorem sub_mod4 (u : UInt8) : ((u.toNat : Int) - (u.toNat : Int) % 4) % 256 = ((u - u % 4).toNat : Int) := by
  have h := u.toNat_lt
  rw [UInt8.toNat_sub, UInt8.toNat_mod]
  simp
  omega
theorem clamp_any (r : ByteArray) (w : World) (h16 : r.size = 16) :
    Calls Tryz.prog 123 #[.string r] w fun e w' => e = .returned (.tuple #[.string (bs (clampL r.data.toList)), .bool true]) ∧ Below w.heap.size w w' := by
  obtain ⟨cap, w1, hcv, hB, hb, hs⟩ := conv_new w r w.heap.size rfl
  have hl16 : r.data.toList.length = 16 := h16
  have HL := Lib.hid hl16
  have HB := Lib.hid hB
  have Hb := Lib.hid hb
  rw [h16] at hcv
  clear hB hb hl16
  generalize r.data.toList = l at HL HB ⊢
  have HA := Lib.hid (show (w1.alloc (.cells #[.int .i64 3, .int .i64 7, .int .i64 11, .int .i64 15] 3)).heap[w1.heap.size]? = some (.cells (ints (natI placeA)).toArray 3 (0, 0)) from heap_alloc_new w1 _)
  have hal := (Below.refl w1.heap.size w1).alloc (Nat.le_refl _) (.cells #[.int .i64 3, .int .i64 7, .int .i64 11, .int .i64 15] 3)
  replace HB := Lib.hid (HB.out.below hal)
  replace Hb := Lib.hid (Hb.out.trans (hal.mono Hb.out.size))
  have Hs := Lib.hid hs
  clear hal hs
  go_enter Tryz.func123, Tryz.ntmps123
  go_wp2_with fail
  go_loopw [16] (fun x wr => ∃ k : Nat, k ≤ 4 ∧ x = .int .i64 (k : Nat) ∧ BytAt wr w.heap.size (clampA l k) ∧ wr.heap[w1.heap.size]? = some (.cells (ints (natI placeA)).toArray 3 (0, 0)) ∧ Below w.heap.size w wr) (fun x _ => 4 - (intOf x).toNat)
  case atStart => exact ⟨0, by omega, rfl, HB.out, HA.out, Hb.out⟩
  case round =>
    obtain ⟨k, hk, rfl, hB, hA, hb⟩ := hrel
    replace HB := Lib.hid hB
    replace HA := Lib.hid hA
    replace Hb := Lib.hid hb
    clear hb
    by_cases hlt : k < 4
    · have e1 : decide ((k : Int) < (4 : Int)) = true := by simp; omega
      have e2 : (k : Int) < (4 : Int) := by omega
      have c0 := (nat_cell hA (i := k) hlt).1
      have hp := placeA_lt k
      obtain ⟨q0, f0⟩ := hB (placeA.getD k 0) (by rw [clampA_len, HL.out]; exact hp)
      have HS := Lib.hid (show clampA l (k + 1) = (clampA l k).set (placeA.getD k 0) ((clampA l k).getD (placeA.getD k 0) 0 % 16) from rfl)
      generalize placeA.getD k 0 = p at c0 hp q0 f0 HS
      generalize (clampA l k).getD p 0 = u at q0 HS
      have e3 : (p : Int) < 16 := by omega
      have hset := HB.out.set p (u % 16)
      rw [← HS.out, UInt8.toNat_mod, show ((u.toNat % (16 : UInt8).toNat : Nat) : Int) = (u.toNat : Int) % 16 by rfl] at hset
      have Hset := Lib.hid hset
      clear hB hA hset
      go_wp2_with fail
      go_roundw
      case rel => exact ⟨k + 1, by omega, by go_num, Hset.out, (Below.heap_setCell _ ⟨w.heap.size, _, none⟩ _ w1.heap.size (by have := Hs.out; simp; omega)).trans HA.out, Hb.out.setCell (Nat.le_refl _) _⟩
      case measure => simp [intOf]; omega
    · obtain rfl : k = 4 := by omega
      have e1 : decide (((4 : Nat) : Int) < (4 : Int)) = false := by simp
      obtain ⟨l2, hl2⟩ : ∃ l2, l2 = clampA l 4 := ⟨_, rfl⟩
      have HE := Lib.hid (show clampL l = clampC l2 3 by rw [hl2]; rfl)
      have HL2 := Lib.hid (show l2.length = 16 by rw [hl2, clampA_len]; exact HL.out)
      rw [← hl2] at HB
      have hal := (Below.refl wr.heap.size wr).alloc (Nat.le_refl _) (.cells #[.int .i64 4, .int .i64 8, .int .i64 12] 3)
      have HC := Lib.hid (show (wr.alloc (.cells #[.int .i64 4, .int .i64 8, .int .i64 12] 3)).heap[wr.heap.size]? = some (.cells (ints (natI placeC)).toArray 3 (0, 0)) from heap_alloc_new wr _)
      have Hws := Lib.hid (show w.heap.size < wr.heap.size by have h1 := (HB.out 0 (by rw [HL2.out]; omega)).1; exact cell_lt h1)
      replace HB := Lib.hid (HB.out.below hal)
      replace Hb := Lib.hid (Hb.out.trans (hal.mono Hb.out.size))
      clear hB hA hal hl2 HL HA hcv
      go_wp2_with fail
      generalize wr.heap.size = G at HC Hws ⊢
      go_loopw [29] (fun x wv => ∃ k : Nat, k ≤ 3 ∧ x = .int .i64 (k : Nat) ∧ BytAt wv w.heap.size (clampC l2 k) ∧ wv.heap[G]? = some (.cells (ints (natI placeC)).toArray 3 (0, 0)) ∧ Below w.heap.size w wv) (fun x _ => 3 - (intOf x).toNat)
      case atStart => exact ⟨0, by omega, rfl, HB.out, HC.out, Hb.out⟩
      case round =>
        obtain ⟨k, hk, rfl, hB, hA, hb⟩ := hrel
        replace HB := Lib.hid hB
        replace HC := Lib.hid hA
        replace Hb := Lib.hid hb
        clear hb
        by_cases hlt : k < 3
        · have e1 : decide ((k : Int) < (3 : Int)) = true := by simp; omega
          have e2 : (k : Int) < (3 : Int) := by omega
          have c0 := (nat_cell hA (i := k) hlt).1
          have hp := placeC_lt k
          obtain ⟨q0, f0⟩ := hB (placeC.getD k 0) (by rw [clampC_len, HL2.out]; exact hp)
          have HS := Lib.hid (show clampC l2 (k + 1) = (clampC l2 k).set (placeC.getD k 0) ((clampC l2 k).getD (placeC.getD k 0) 0 - (clampC l2 k).getD (placeC.getD k 0) 0 % 4) from rfl)
          generalize placeC.getD k 0 = p at c0 hp q0 f0 HS
          generalize (clampC l2 k).getD p 0 = u at q0 HS
          have e3 : (p : Int) < 16 := by omega
          have hset := HB.out.set p (u - u % 4)
          rw [← HS.out] at hset
          have Hset := Lib.hid hset
          clear hB hA hset
          go_wp2_with fail
          go_region_law (fail)
          all_goals
            go_wp2_with fail
            go_roundw
            case rel =>
              repeat apply Exists.intro
              refine ⟨⟨k + 1, by omega, by go_num, ?_, (Below.heap_setCell _ ⟨w.heap.size, _, none⟩ _ G (by have := Hws.out; simp; omega)).trans HC.out, (show Below w.heap.size w (wr.setCell ⟨w.heap.size, p, none⟩ _) from Hb.out.setCell (Nat.le_refl _) _).drew⟩, rfl⟩
              rw [sub_mod4]
              exact Hset.out.drew
            case measure => simp [intOf]; omega
        · obtain rfl : k = 3 := by omega
          have e1 : decide (((3 : Nat) : Int) < (3 : Int)) = false := by simp
          have hcb := conv_byt hB cap 16 (by rw [clampC_len, HL2.out])
          clear hB hA
          go_wp2_with fail
          go_ret2
          rw [HE.out]
          exact ⟨rfl, Hb.out⟩
def digsL (l : List UInt8) : List Nat := l.map (·.toNat)
theorem digsL_len (l : List UInt8) : (digsL l).length = l.length := by simp [digsL]
theorem digsL_le (l : List UInt8) : ∀ x ∈ digsL l, x ≤ 255 := by
  intro x hx
  obtain ⟨u, _, rfl⟩ := List.mem_map.1 hx
  have := u.toNat_lt
  omega
theorem natI_app1 (l : List Nat) (x : Nat) : ints (natI (l ++ [x])) = ints (natI l) ++ [.int .i64 (x : Int)] := by simp [ints, natI]
theorem dof_any (s : ByteArray) (x : Nat) (M : Option Addr) (c : Nat) (w : World) (hM : Rd w M (ints (natI [x]))) (hs : s.size ≤ 16) :
    Calls Tryz.prog 124 #[.string s, .slice M 1 c] w fun e w' => ∃ A n cap, e = .returned (.slice A n cap) ∧ n = s.size + 1 ∧ n ≤ cap ∧ cap ≤ maxLen ∧ Rd w' A (ints (natI (digsL s.data.toList ++ [x]))) ∧ Below w.heap.size w w' := by
  have hmk : (Instr.makeSlice 71 (.int .i64 0) (.int .i64 17)).run Tryz.prog w = .ok (.slice (some ⟨w.heap.size, 0, none⟩) 0 17) (w.alloc (.cells (madeCells #[.int .i64 0] 17) 3)) := run_make_room (P := Tryz.prog) 71 3 (.int .i64 0) 8 Tryz.underlying71 int_info rfl .i64 .i64 17 (by omega) (by omega) w
  have HO := Lib.hid (World.ownsRow_made (base := w.heap.size) (size := 1) (e := 3) w (madeCells #[.int .i64 0] 17) 17 (Nat.le_refl _) (by decide) (by simp [madeCells]))
  have HB := Lib.hid ((Below.refl w.heap.size w).alloc (Nat.le_refl _) (.cells (madeCells #[.int .i64 0] 17) 3))
  have HM := Lib.hid hM
  have HS := Lib.hid hs
  clear hM hs
  go_enter Tryz.func124, Tryz.ntmps124
  go_wp2_with fail
  go_loopw [5, 10] (fun v y wr => ∃ (k : Nat) (A : Option Addr) (cap : Nat), k ≤ s.size ∧ y = .int .i64 (k : Nat) ∧ v = .slice A k cap ∧ wr.ownsRow w.heap.size 3 1 (.slice A k cap) k (ints (natI (digsL (s.data.toList.take k)))) ∧ Below w.heap.size w wr) (fun _ y _ => s.size - (intOf y).toNat)
  case atStart => exact ⟨0, _, 17, by omega, rfl, rfl, HO.out, HB.out⟩
  case round =>
    obtain ⟨k, A, cap, hk, rfl, rfl, ho, hb⟩ := hrel
    replace HO := Lib.hid ho
    replace HB := Lib.hid hb
    clear ho hb
    have hs16 := HS.out
    by_cases hlt : k < s.size
    · have e1 : decide ((k : Int) < (s.size : Int)) = true := by simp; omega
      have e2 : (k : Int) < (s.size : Int) := by omega
      have hkl : k < s.data.toList.length := hlt
      have HT := Lib.hid (show digsL (s.data.toList.take (k + 1)) = digsL (s.data.toList.take k) ++ [(s.data.toList[k]).toNat] by
        rw [List.take_succ_eq_append_getElem hkl, digsL, List.map_append]
        rfl)
      go_wp2_with (at_builtin; refine wpList_append_new (by rfl) (.tmp 13) (.tmp 18) 71 (by rfl) w.heap.size 3 (.int .i64 0) 1 8 Tryz.underlying71 int_info rfl (by omega) wr _ _ _ _ _ (by rfl) HO.out _ 1 1 (by rfl) (by rfl) (by rfl) (by rfl) (by omega) (by omega) (by omega) (by exact HB.out.size) ?_)
      intro g2 cap2 w3 ho3 hb3 _ _ _
      have HO4 : Hid (w3.ownsRow w.heap.size 3 1 (.slice (some ⟨g2, 0, none⟩) (k + 1) cap2) (k + 1) (ints (natI (digsL (s.data.toList.take (k + 1)))))) := Lib.hid (by
        rw [HT.out, natI_app1]
        have h := ho3
        have hu := (s.data.toList[k]).toNat_lt
        rw [show s[k] = s.data.toList[k] from rfl, IntWalk.wrap64_in _ ⟨by omega, by omega⟩] at h
        exact h)
      have HB4 := Lib.hid (HB.out.trans hb3)
      clear ho3 hb3 HO HB HT hkl
      go_wp2_with fail
      go_roundw
      case rel => exact ⟨k + 1, some ⟨g2, 0, none⟩, cap2, by omega, by go_num, rfl, HO4.out, HB4.out⟩
      case measure => simp [intOf]; omega
    · obtain rfl : k = s.size := by omega
      have e1 : decide ((s.size : Int) < (s.size : Int)) = false := by simp
      rw [List.take_of_length_le (Nat.le_of_eq (len_data s))] at HO
      obtain ⟨bm, om, hMe, _⟩ := nat_at HM.out (i := 0) (by simp)
      subst hMe
      have HM2 := Lib.hid (HM.out.below HB.out)
      go_wp2_with (at_builtin; refine wpList_append_from (by rfl) (.tmp 21) (.tmp 22) 71 (by rfl) w.heap.size 3 (.int .i64 0) 1 8 Tryz.underlying71 int_info rfl (by omega) wr _ _ _ _ (by rfl) HO.out _ 1 _ (by rfl) HM2.out (by rfl) (by simp [ints, natI, Value.oneCell']) (by omega) (by omega) (by omega) HB.out.size ?_)
      intro g2 cap2 w3 ho3 hb3 _ _ _
      have HB4 := Lib.hid (HB.out.trans hb3)
      have HO4 : Hid (w3.ownsRow w.heap.size 3 1 (.slice (some ⟨g2, 0, none⟩) (s.size + 1) cap2) (s.size + 1) (ints (natI (digsL s.data.toList ++ [x])))) := Lib.hid (by rw [natI_app1]; exact ho3)
      clear ho3 hb3 HO HB
      go_wp2_with fail
      go_ret
      obtain ⟨_, h | ⟨g', cap', cur, hv, _, _, h1, h2, _⟩⟩ := HO4.out
      · cases h.1
      · injection hv with _ _ hc
        subst hc
        exact ⟨_, _, _, rfl, rfl, h1, h2, own_rd HO4.out, HB4.out⟩

/- Tag5 -/
open Go.RowKit
set_option linter.unusedVariables false
set_option linter.unusedSimpArgs false
set_option maxRecDepth 100000
set_option maxHeartbeats 2000000

/-- A part added, and multiplied. -/
def stepT (acc r : List Nat) (p : List UInt8) : List Nat := digL (leftN (tgTimesTo (plusTo (tgReadTo acc 17) (tgReadTo (digsL p ++ [1]) (p.length + 1)) 5) (tgReadTo r 17) 5))
theorem step_row (acc r : List Nat) (p : List UInt8) : tgRowP (stepT acc r p) := row_left _
theorem read_le {l : List Nat} (hl : ∀ x ∈ l, x ≤ 255) (k : Nat) (hk : k ≤ 17) (j : Nat) : (tgReadTo l k).getD j 0 ≤ 268435712 := by
  rcases Nat.lt_or_ge j 5 with h | h
  · exact Nat.le_trans (tgReadTo_le hl k hk j) (readB_le k hk j h)
  · rw [getD_out _ (tgReadTo_len l k) j h]
    exact Nat.zero_le _
theorem plus_le {n m : List Nat} (hn : n.length = 5) (h1 : ∀ j, n.getD j 0 ≤ 268435712) (h2 : ∀ j, m.getD j 0 ≤ 268435712) (j : Nat) : (plusTo n m 5).getD j 0 ≤ 536871424 := by
  rw [plusTo_at n m hn 5 (by omega) j]
  have a := h1 j
  have b := h2 j
  split <;> omega
theorem k5_below {W W' : World} {p q r s t : Addr} {u v x y z : Value} (h : (W.cell? p = some u ∧ W.cell? q = some v) ∧ (W.cell? r = some x ∧ W.cell? s = some y) ∧ W.cell? t = some z) (hb : Below W.heap.size W W') : (W'.cell? p = some u ∧ W'.cell? q = some v) ∧ (W'.cell? r = some x ∧ W'.cell? s = some y) ∧ W'.cell? t = some z :=
  ⟨keep2_below h.1 hb, keep2_below h.2.1 hb, (keep2_below ⟨h.2.2, h.2.2⟩ hb).1⟩
theorem k5_drew {W : World} {p q r s t : Addr} {u v x y z : Value} (h : (W.cell? p = some u ∧ W.cell? q = some v) ∧ (W.cell? r = some x ∧ W.cell? s = some y) ∧ W.cell? t = some z) : (W.drew.cell? p = some u ∧ W.drew.cell? q = some v) ∧ (W.drew.cell? r = some x ∧ W.drew.cell? s = some y) ∧ W.drew.cell? t = some z := h
theorem row_17 {l : List Nat} (h : tgRowP l) : l.length = 17 ∧ ∀ x ∈ l, x ≤ 255 := ⟨h.1, h.2.1⟩
theorem lowN_left (n : List Nat) : lowN (leftN n) := by
  unfold leftN partsOf lowN
  simp only [List.getD_cons_zero, List.getD_cons_succ]
  refine ⟨?_, ?_, ?_, ?_, ?_⟩ <;> exact Nat.mod_lt _ (by omega)
theorem tstep_any (A R : Option Addr) (c d : Nat) (acc r : List Nat) (p : ByteArray) (w : World) (hA : Rd w A (ints (natI acc))) (hR : Rd w R (ints (natI r))) (hc : 17 ≤ c) (hc9 : c ≤ 9223372036854775807) (hd : 17 ≤ d) (hd9 : d ≤ 9223372036854775807)
    (ha : tgRowP acc) (hr : tgRowP r) (hp1 : 1 ≤ p.size) (hp16 : p.size ≤ 16) :
    Calls Tryz.prog 126 #[.slice A 17 c, .slice R 17 d, .string p] w fun e w' => ∃ B, e = .returned (.tuple #[.slice B 17 17, .bool true]) ∧ Rd w' B (ints (natI (stepT acc r p.data.toList))) ∧ Below w.heap.size w w' := by
  have HA := Lib.hid hA
  have HR := Lib.hid hR
  have HC := Lib.hid (And.intro (And.intro hc hc9) (And.intro hd hd9))
  have Hra := Lib.hid ha
  have Hrr := Lib.hid hr
  have Hp := Lib.hid (And.intro hp1 hp16)
  have d1 : decide ((p.size : Int) < 1) = false := by simp; omega
  have d2 : decide ((p.size : Int) > 16) = false := by simp; omega
  clear hA hR hc hc9 hd hd9 ha hr hp1 hp16
  go_enter Tryz.func126, Tryz.ntmps126
  go_wp2_with fail
  refine (isRow_yes A c acc w HA.out HC.out.1.1 HC.out.1.2 Hra.out).mono ?_
  rintro e w' ⟨rfl, rfl⟩
  go_wp2_with fail
  refine (isRow_yes R d r _ HR.out HC.out.2.1 HC.out.2.2 Hrr.out).mono ?_
  rintro e w2 ⟨rfl, rfl⟩
  go_wp2_with fail
  refine (tgRead_any A 17 c acc _ HA.out Hra.out.1.symm (by rw [Hra.out.1]; omega) Hra.out.2.1).mono ?_
  rintro e w2 ⟨rfl, hb2⟩
  obtain ⟨na, hna⟩ : ∃ na, na = tgReadTo acc 17 := ⟨_, rfl⟩
  have Hna := Lib.hid (show na.length = 5 by rw [hna]; exact tgReadTo_len _ _)
  have Hnb := Lib.hid (show ∀ j, na.getD j 0 ≤ 268435712 by rw [hna]; exact read_le Hra.out.2.1 17 (by omega))
  have HE1 := Lib.hid hna
  rw [Hra.out.1, ← hna]
  have hal := (Below.refl w2.heap.size w2).alloc (Nat.le_refl _) (.cells #[.int .i64 1] 3)
  have hb2a := Below.chain hb2 hal
  have HB := Lib.hid hb2a
  replace HR := Lib.hid (HR.out.below hb2a)
  clear hna hal hb2 hb2a HA
  go_wp2_with fail
  refine (dof_any p 1 _ 1 _ (show Rd _ _ (ints (natI [1])) from rd_new' w2 3 #[.int .i64 1] _ rfl) Hp.out.2).mono ?_
  rintro e w3 ⟨D, nD, cD, rfl, hnD, hcD, hcm, hrD, hb3⟩
  replace HB := Lib.hid (HB.out.trans (hb3.mono HB.out.size))
  replace HR := Lib.hid (HR.out.below hb3)
  have HD := Lib.hid hrD
  have HlD := Lib.hid (show nD = (digsL p.data.toList ++ [1]).length by rw [hnD, List.length_append, digsL_len]; rfl)
  have Hle := Lib.hid (show ∀ x ∈ digsL p.data.toList ++ [1], x ≤ 255 from fun x hx => by
    rcases List.mem_append.1 hx with h | h
    · exact digsL_le _ x h
    · have : x = 1 := by simpa using h
      omega)
  have Hl17 := Lib.hid (show (digsL p.data.toList ++ [1]).length ≤ 17 by rw [List.length_append, digsL_len]; have := Hp.out.2; show p.size + 1 ≤ 17; omega)
  clear hb3 hrD hnD hcD hcm
  go_wp2_with fail
  refine (tgRead_any D nD cD _ _ HD.out HlD.out Hl17.out Hle.out).mono ?_
  rintro e w4 ⟨rfl, hb4⟩
  obtain ⟨nb, hnb⟩ : ∃ nb, nb = tgReadTo (digsL p.data.toList ++ [1]) (digsL p.data.toList ++ [1]).length := ⟨_, rfl⟩
  have Hnb5 := Lib.hid (show nb.length = 5 by rw [hnb]; exact tgReadTo_len _ _)
  have Hnbb := Lib.hid (show ∀ j, nb.getD j 0 ≤ 268435712 by rw [hnb]; exact read_le Hle.out _ Hl17.out)
  have HE2 := Lib.hid (show nb = tgReadTo (digsL p.data.toList ++ [1]) (p.data.toList.length + 1) by rw [hnb, List.length_append, digsL_len]; rfl)
  rw [← hnb]
  replace HB := Lib.hid (HB.out.trans (hb4.mono HB.out.size))
  replace HR := Lib.hid (HR.out.below hb4)
  clear hnb hb4 HD HlD Hle Hl17
  go_wp2_with fail
  refine (nplus_any na nb _ Hna.out Hnb5.out (fun j _ => Nat.le_trans (Hnb.out j) (by decide)) (fun j _ => Nat.le_trans (Hnbb.out j) (by decide))).mono ?_
  rintro e w5 ⟨rfl, hb5⟩
  obtain ⟨ns, hns⟩ : ∃ ns, ns = plusTo na nb 5 := ⟨_, rfl⟩
  have Hns5 := Lib.hid (show ns.length = 5 by rw [hns, plusTo_len]; exact Hna.out)
  have Hnsb := Lib.hid (show ∀ j, ns.getD j 0 ≤ 536871424 by rw [hns]; exact plus_le Hna.out Hnb.out Hnbb.out)
  have HE3 := Lib.hid hns
  rw [← hns]
  replace HB := Lib.hid (HB.out.trans (hb5.mono HB.out.size))
  replace HR := Lib.hid (HR.out.below hb5)
  obtain ⟨s0, s1, s2, s3, s4, hs5⟩ := five Hns5.out
  have env : numV ns = .agg #[.int .i64 (s0 : Nat), .int .i64 (s1 : Nat), .int .i64 (s2 : Nat), .int .i64 (s3 : Nat), .int .i64 (s4 : Nat)] := by rw [hs5]; rfl
  have Henv := Lib.hid env
  rw [env]
  have hal := (Below.refl w5.heap.size w5).alloc (Nat.le_refl _) (.cells #[.int .i64 (s0 : Nat), .int .i64 (s1 : Nat), .int .i64 (s2 : Nat), .int .i64 (s3 : Nat), .int .i64 (s4 : Nat)] 167)
  have H5 := Lib.hid (heap_alloc_new w5 (.cells #[.int .i64 (s0 : Nat), .int .i64 (s1 : Nat), .int .i64 (s2 : Nat), .int .i64 (s3 : Nat), .int .i64 (s4 : Nat)] 167))
  replace HB := Lib.hid (HB.out.trans (hal.mono HB.out.size))
  replace HR := Lib.hid (HR.out.below hal)
  clear hns hb5 hs5 env hal
  obtain ⟨nr, hnr⟩ : ∃ nr, nr = tgReadTo r 17 := ⟨_, rfl⟩
  have Hnr5 := Lib.hid (show nr.length = 5 by rw [hnr]; exact tgReadTo_len _ _)
  have Hnrb := Lib.hid (show ∀ j, nr.getD j 0 ≤ 268435712 by rw [hnr]; exact read_le Hrr.out.2.1 17 (by omega))
  obtain ⟨nt, hnt⟩ : ∃ nt, nt = tgTimesTo ns nr 5 := ⟨_, rfl⟩
  have Hnt5 := Lib.hid (show nt.length = 5 by rw [hnt]; exact tgTimesTo_len _ _ _)
  have Hntf := Lib.hid (show fitN nt by rw [hnt]; exact times_fit Hnsb.out Hnrb.out)
  obtain ⟨nl, hnl⟩ : ∃ nl, nl = leftN nt := ⟨_, rfl⟩
  have Hnl5 := Lib.hid (show nl.length = 5 by rw [hnl]; rfl)
  have Hnll := Lib.hid (show lowN nl by rw [hnl]; exact lowN_left _)
  have HE := Lib.hid (show stepT acc r p.data.toList = digL nl by rw [hnl, hnt, hnr, HE3.out, HE1.out, HE2.out]; rfl)
  have HRd := Lib.hid (show ∀ W, Rd W R (ints (natI r)) → Calls Tryz.prog 142 #[.slice R 17 d] W fun e w' => e = .returned (numV nr) ∧ Below W.heap.size W w' from fun W h => by
    have e := tgRead_any R 17 d r W h Hrr.out.1.symm (by rw [Hrr.out.1]; omega) Hrr.out.2.1
    rw [Hrr.out.1, ← hnr] at e
    exact e)
  have HTm := Lib.hid (show ∀ W, Calls Tryz.prog 144 #[.agg #[.int .i64 (s0 : Nat), .int .i64 (s1 : Nat), .int .i64 (s2 : Nat), .int .i64 (s3 : Nat), .int .i64 (s4 : Nat)], numV nr] W fun e w' => e = .returned (numV nt) ∧ Below W.heap.size W w' from fun W => by rw [← Henv.out, hnt]; exact ntimes_any ns nr W Hns5.out Hnr5.out Hnsb.out Hnrb.out)
  have HLf := Lib.hid (show ∀ W, Calls Tryz.prog 145 #[numV nt] W fun e w' => e = .returned (numV nl) ∧ Below W.heap.size W w' from fun W => by rw [hnl]; exact nleft_any nt W Hnt5.out Hntf.out)
  have HDg := Lib.hid (fun W => ndigits_any nl W Hnl5.out Hnll.out)
  clear hnr hnt hnl
  go_wp2_with fail
  obtain ⟨g5, hg5⟩ : ∃ g, g = w5.heap.size := ⟨_, rfl⟩
  obtain ⟨w6, hw6⟩ : ∃ w6, w6 = w5.alloc (.cells #[.int .i64 (s0 : Nat), .int .i64 (s1 : Nat), .int .i64 (s2 : Nat), .int .i64 (s3 : Nat), .int .i64 (s4 : Nat)] 167) := ⟨_, rfl⟩
  rw [← hw6] at HB HR H5 ⊢
  rw [← hg5] at H5 ⊢
  clear hw6 hg5
  obtain ⟨⟨x0, x1, x2, x3, x4⟩, _⟩ := five_cells H5.out
  have q6 : (w6.cell? ⟨g5, 0, none⟩ = some (.int .i64 (s0 : Nat)) ∧ w6.cell? ⟨g5, 1, none⟩ = some (.int .i64 (s1 : Nat))) ∧ (w6.cell? ⟨g5, 2, none⟩ = some (.int .i64 (s2 : Nat)) ∧ w6.cell? ⟨g5, 3, none⟩ = some (.int .i64 (s3 : Nat))) ∧ w6.cell? ⟨g5, 4, none⟩ = some (.int .i64 (s4 : Nat)) := ⟨⟨x0, x1⟩, ⟨x2, x3⟩, x4⟩
  clear x0 x1 x2 x3 x4 H5
  go_region_held3 (fun w' => (w'.cell? ⟨g5, 0, none⟩ = some (.int .i64 (s0 : Nat)) ∧ w'.cell? ⟨g5, 1, none⟩ = some (.int .i64 (s1 : Nat))) ∧ (w'.cell? ⟨g5, 2, none⟩ = some (.int .i64 (s2 : Nat)) ∧ w'.cell? ⟨g5, 3, none⟩ = some (.int .i64 (s3 : Nat))) ∧ w'.cell? ⟨g5, 4, none⟩ = some (.int .i64 (s4 : Nat)))
    (first | with_reducible assumption | with_reducible exact k5_drew q6 | with_reducible exact q7 | with_reducible exact q8 | with_reducible exact q9 | with_reducible exact q10)
    (first
      | ((go_at_call 142; refine (HRd.out _ (HR.out.below ((Below.refl _ w6).drew))).mono ?_); rintro _ w7 ⟨rfl, hb7'⟩; have hb7 := Below.chain ((Below.refl _ w6).drew) hb7'; have q7 := k5_below q6 hb7; have HB7 := Lib.hid (HB.out.trans (hb7.mono HB.out.size)))
      | ((go_at_call 144; refine (HTm.out _).mono ?_); rintro _ w8 ⟨rfl, hb8⟩; have q8 := k5_below q7 hb8; have HB8 := Lib.hid (HB7.out.trans (hb8.mono HB7.out.size)))
      | ((go_at_call 145; refine (HLf.out _).mono ?_); rintro _ w9 ⟨rfl, hb9⟩; have q9 := k5_below q8 hb9; have HB9 := Lib.hid (HB8.out.trans (hb9.mono HB8.out.size)))
      | ((go_at_call 146; refine (HDg.out _).mono ?_); rintro _ w10 ⟨B, rfl, hrB, hb10⟩; have q10 := k5_below q9 hb10; have HB10 := Lib.hid (HB9.out.trans (hb10.mono HB9.out.size))))
  go_wp2_with fail
  go_ret2
  rw [HE.out]
  exact ⟨B, rfl, hrB, HB10.out⟩

/- Tag6 -/
open Go.RowKit Go.Shelf
set_option linter.unusedVariables false
set_option linter.unusedSimpArgs false
set_option maxRecDepth 100000
set_option maxHeartbeats 1000000
attribute [local go_sem] Oper.semAt_some

/-- A part: 1 to 16 bytes. -/
abbrev Prt := { b : ByteArray // 1 ≤ b.size ∧ b.size ≤ 16 }
def prtOf (s : ByteArray) (i : Nat) : Prt :=
  if h : 1 ≤ (s.extract (16 * i) (min (16 * i + 16) s.size)).size ∧ (s.extract (16 * i) (min (16 * i + 16) s.size)).size ≤ 16 then ⟨s.extract (16 * i) (min (16 * i + 16) s.size), h⟩ else ⟨bs [0], by decide⟩
theorem prtOf_eq {s : ByteArray} {i : Nat} (h : 16 * i < s.size) : (prtOf s i).1 = s.extract (16 * i) (min (16 * i + 16) s.size) := by
  have h2 : 1 ≤ (s.extract (16 * i) (min (16 * i + 16) s.size)).size ∧ (s.extract (16 * i) (min (16 * i + 16) s.size)).size ≤ 16 := by
    rw [ByteArray.size_extract]
    omega
  unfold prtOf
  rw [dif_pos h2]
def prtsTo (s : ByteArray) (k : Nat) : List Prt := (List.range k).map (prtOf s)
theorem prtsTo_succ (s : ByteArray) (k : Nat) : prtsTo s (k + 1) = prtsTo s k ++ [prtOf s k] := by simp [prtsTo, List.range_succ]
theorem prtsTo_len (s : ByteArray) (k : Nat) : (prtsTo s k).length = k := by simp [prtsTo]

theorem parts1_in (F : Fence) (n : Nat) (hf : F.fn 140) (hro : F.round = none) (hn : 1 ≤ n) (l Bs N : Nat) (s : ByteArray) (hs : s.size ≤ 1000000000) (hN : N = (s.size + 15) / 16) (J Jx : List Prt → World → Prop)
    (hY : ∀ pre x W, J pre W → pre.length < N → YieldAt F (n - 1) Tryz.prog l #[.string x.1] W fun e W' =>
      (e = .returned (.bool true) ∧ J (pre ++ [x]) W' ∧ KeepB [Bs] W W') ∨ (e = .returned (.bool false) ∧ Jx (pre ++ [x]) W'))
    (W : World) (hBs : W.cell? ⟨Bs, 0, none⟩ = some (.string s)) (h0 : J [] W) :
    CallsIn F n Tryz.prog 140 #[.func (.yield l) #[] #[], .pointer (some ⟨Bs, 0, none⟩)] W fun e W' => (∃ v, e = .returned v) ∧
      ((∃ ys, ys = prtsTo s N ∧ J ys W') ∨ (∃ pre, True ∧ Jx pre W')) := by
  have HY := Lib.hid hY
  have HN := Lib.hid hN
  clear hY hN
  refine callsIn_of_wp Tryz.func140 rfl hf ?_ hro
  simp only [Tryz.ntmps140, List.size_toArray, List.length_cons, List.length_nil, Nat.reduceAdd, Nat.reduceSub, Array.replicate_succ, Array.replicate_zero, List.push_toArray, List.append_toArray, List.nil_append, List.cons_append]
  gi_wp2
  gi_loopw [3] (fun v wr => ∃ k : Nat, k ≤ N ∧ v = .int .i64 ((16 * k : Nat) : Int) ∧ wr.cell? ⟨Bs, 0, none⟩ = some (.string s) ∧ J (prtsTo s k) wr) (fun v _ => s.size + 16 - (intOf v).toNat)
  case atStart => exact ⟨0, by omega, rfl, hBs, h0⟩
  case round =>
    obtain ⟨k, hk, rfl, hcb, hJ⟩ := hrel
    have hNk := HN.out
    by_cases hlt : 16 * k < s.size
    · have hkN : k < N := by omega
      have hx := prtOf_eq hlt
      obtain ⟨fn, tmps, assign, body, hy, hR⟩ := HY.out _ (prtOf s k) wr hJ (by rw [prtsTo_len]; exact hkN)
      rw [hx] at hy
      have HR := Lib.hid hR
      have hsl : (Instr.slice 9 (.string s) (some (.int .i64 (16 * (k : Int)))) (some (.int .i64 (min (16 * (k : Int) + 16) (s.size : Int)))) none).run Tryz.prog wr = .ok (.string (s.extract (16 * k) (min (16 * k + 16) s.size))) wr := by
        have h := run_slice_string (P := Tryz.prog) wr 9 s .i64 .i64 (16 * (k : Int)) (min (16 * (k : Int) + 16) (s.size : Int)) Tryz.underlying9 (by omega) (by omega) (by omega)
        rw [show (min (16 * (k : Int) + 16) (s.size : Int)).toNat = min (16 * k + 16) s.size by omega, show (16 * (k : Int)).toNat = 16 * k by omega] at h
        exact h
      clear hR hx
      gi_wp2
      refine HR.out.mono ?_
      rintro e W3 (⟨rfl, hJ3, hk3⟩ | ⟨rfl, hJx3⟩)
      · have hcb3 : W3.cell? ⟨Bs, 0, none⟩ = some (.string s) := (World.cell?_of_block (hk3 Bs (by simp))).trans hcb
        gi_wp2
        go_roundw
        case rel => exact ⟨k + 1, by omega, by go_num, hcb3, by rw [prtsTo_succ]; exact hJ3⟩
        case measure => simp [intOf]; omega
      · gi_wp2
        refine bodyPost_ret (results_none rfl _ _ _) rfl ?_
        exact ⟨⟨_, rfl⟩, .inr ⟨_, trivial, hJx3⟩⟩
    · obtain rfl : k = N := by omega
      gi_wp2
      go_end0
      exact ⟨⟨_, rfl⟩, .inl ⟨_, rfl, hJ⟩⟩
theorem parts_in (F : Fence) (n : Nat) (hf : F.fn 125) (hro : F.round = none) (s : ByteArray) (w : World) :
    CallsIn F n Tryz.prog 125 #[.string s] w fun e w' => e = .returned (.func (.func 140) #[] #[.pointer (some ⟨w.heap.size, 0, none⟩)]) ∧ w' = w.alloc (.cells #[.string s] 9) := by
  refine callsIn_of_wp Tryz.func125 rfl hf ?_ hro
  simp only [Tryz.ntmps125, List.size_toArray, List.length_cons, List.length_nil, Nat.reduceAdd, Nat.reduceSub, Array.replicate_succ, Array.replicate_zero, List.push_toArray, List.append_toArray, List.nil_append, List.cons_append]
  gi_wp2
  go_ret
  exact ⟨rfl, rfl⟩

/- Tag7 -/
open Go.RowKit Go.Shelf
set_option linter.unusedVariables false
set_option linter.unusedSimpArgs false
set_option maxRecDepth 100000
set_option maxHeartbeats 2000000
attribute [local go_sem] Oper.semAt_some

def zeros17 : List Nat := List.replicate 17 0
theorem zeros_row : tgRowP zeros17 := ⟨rfl, fun x hx => by rw [(List.mem_replicate.1 hx).2]; omega, .inl (by decide)⟩
def tgAccT (r : List Nat) (pre : List Prt) : List Nat := pre.foldl (fun acc x => stepT acc r x.1.data.toList) zeros17
theorem tgAccT_snoc (r : List Nat) (pre : List Prt) (x : Prt) : tgAccT r (pre ++ [x]) = stepT (tgAccT r pre) r x.1.data.toList := by simp [tgAccT]
theorem fold_row (r : List Nat) : ∀ (pre : List Prt) {a : List Nat}, tgRowP a → tgRowP (pre.foldl (fun acc x => stepT acc r x.1.data.toList) a)
  | [], _, h => h
  | x :: pre, _, _ => fold_row r pre (step_row _ _ _)
theorem tgAccT_row (r : List Nat) (pre : List Prt) : tgRowP (tgAccT r pre) := fold_row r pre zeros_row
def keyR (key : List UInt8) : List Nat := digsL (clampL (key.take 16)) ++ [0]
theorem keyR_row {key : List UInt8} (h : key.length = 32) : tgRowP (keyR key) := by
  have hl : (digsL (clampL (key.take 16))).length = 16 := by rw [digsL_len, clampL_len, List.length_take]; omega
  refine ⟨by rw [keyR, List.length_append, hl]; rfl, fun x hx => ?_, .inl ?_⟩
  · rcases List.mem_append.1 hx with h | h
    · exact digsL_le _ x h
    · have : x = 0 := by simpa using h
      omega
  · rw [keyR, List.getD_eq_getElem?_getD, List.getElem?_append_right (by omega), hl]
    decide
/-- What is carried behind k bytes. -/
def sumA (acc : List Nat) (key : List UInt8) : Nat → Nat
  | 0 => 0
  | k + 1 => (sumA acc key k + (acc.getD k 0 + (key.getD (16 + k) 0).toNat)) / 256
def endL (acc : List Nat) (key : List UInt8) : List UInt8 := (List.range 16).map fun k => UInt8.ofNat (sumA acc key k + (acc.getD k 0 + (key.getD (16 + k) 0).toNat))
def tagL (key : List UInt8) (s : ByteArray) : List UInt8 := endL (tgAccT (keyR key) (prtsTo s ((s.size + 15) / 16))) key
theorem tagL_len (key : List UInt8) (s : ByteArray) : (tagL key s).length = 16 := by simp [tagL, endL]
theorem sumA_le {acc : List Nat} (h : ∀ i, acc.getD i 0 ≤ 255) (key : List UInt8) : ∀ k, sumA acc key k ≤ 3
  | 0 => Nat.zero_le _
  | k + 1 => by
    have ih := sumA_le h key k
    have h1 := h k
    have h2 := (key.getD (16 + k) 0).toNat_lt
    rw [sumA]
    omega

/-- What lies between two parts. -/
structure TI (w : World) (g8 g9 gs : Nat) (R : Option Addr) (d : Nat) (r : List Nat) (pre : List Prt) (W : World) : Prop where
  ex : ∃ B c, W.heap[g9]? = some (.cells #[.slice B 17 c] 71 (0, 0)) ∧ 17 ≤ c ∧ c ≤ 9223372036854775807 ∧ Rd W B (ints (natI (tgAccT r pre)))
  h8 : W.heap[g8]? = some (.cells #[.slice R 17 d] 71 (0, 0))
  rd : Rd W R (ints (natI r))
  bw : Below w.heap.size w W
  gs : gs < W.heap.size
theorem blk_kept {X Y : World} {row : Option Nat} {b : Nat} {C : Array Value} {t : TypeId} (h : X.heap[b]? = some (.cells C t (0, 0))) (hg : X.grownBy Y row) (hr : ∀ r, row = some r → ∃ o : Obj, X.heap[r]? = some o ∧ o.isCells = false) : Y.heap[b]? = some (.cells C t (0, 0)) := by
  refine (hg.block b (cell_lt_of h) (fun e => ?_)).trans h
  obtain ⟨o, ho, hc⟩ := hr b e.symm
  rw [h] at ho
  obtain rfl := Option.some.inj ho
  cases hc
theorem rd_kept {X Y : World} {row : Option Nat} {A : Option Addr} {xs : List Value} (h : Rd X A xs) (hg : X.grownBy Y row) (hr : ∀ r, row = some r → ∃ o : Obj, X.heap[r]? = some o ∧ o.isCells = false) : Rd Y A xs := fun i u hu => by
  obtain ⟨b, off, hA, hc⟩ := h i u hu
  refine ⟨b, off, hA, (World.cell?_of_block (hg.block b (cell_lt hc) (fun e => ?_))).trans hc⟩
  obtain ⟨o, ho, hf⟩ := hr b e.symm
  unfold World.cell? at hc
  rw [ho] at hc
  cases o <;> first | (cases hf; done) | (have h9 : (none : Option Value) = some u := hc; cases h9)
theorem ti_own (w : World) (g8 g9 gs : Nat) (R : Option Addr) (d : Nat) (r : List Nat) (B : Nat) (hB : w.heap.size ≤ B) : OwnFrom B (TI w g8 g9 gs R d r) := fun s X Y row h hg hr => by
  obtain ⟨B', c, h1, h2, h3, h4⟩ := h.ex
  have hr' := fun r e => (hr r e).2
  exact ⟨⟨B', c, blk_kept h1 hg hr', h2, h3, rd_kept h4 hg hr'⟩, blk_kept h.h8 hg hr', rd_kept h.rd hg hr', ownFrom_below (β := Unit) (w₀ := w) (Nat.le_refl _) hB () X Y row h.bw hg hr, Nat.lt_of_lt_of_le h.gs hg.size⟩
/-- A row of numbers stays behind a store into a slice's variable. -/
theorem rd_slice {W : World} {A B : Option Addr} {g n c : Nat} {t : TypeId} {fr : Nat × Nat} {xs : List Int} (h : Rd W A (ints xs)) (hb : W.heap[g]? = some (.cells #[.slice B n c] t fr)) (v : Value) : Rd (W.setCell ⟨g, 0, none⟩ v) A (ints xs) := fun i u hu => by
  obtain ⟨b, off, hA, hc⟩ := h i u hu
  refine ⟨b, off, hA, (World.cell?_of_block (Below.heap_setCell W ⟨g, 0, none⟩ v b (fun e => ?_))).trans hc⟩
  subst e
  obtain ⟨x, hx⟩ : ∃ x, u = .int .i64 x := by
    have := List.mem_of_getElem? hu
    obtain ⟨x, _, rfl⟩ := List.mem_map.1 this
    exact ⟨x, rfl⟩
  subst hx
  unfold World.cell? at hc
  simp only [hb] at hc
  rcases Nat.eq_zero_or_pos (off + i) with e | e
  · rw [e] at hc; simp at hc
  · rw [Array.getElem?_eq_none (by simp; omega)] at hc; cases hc

theorem rd_made {W : World} {g : Nat} {t : TypeId} (h : W.heap[g]? = some (.cells (madeCells #[.int .i64 0] 17) t (0, 0))) : Rd W (some ⟨g, 0, none⟩) (ints (natI zeros17)) := by
  have e : madeCells #[.int .i64 0] 17 = (ints (natI zeros17)).toArray := by kernel_rfl
  rw [e] at h
  intro i u hu
  refine ⟨g, 0, rfl, ?_⟩
  rw [Nat.zero_add, cell_of_row W g i _ _ _ h]
  simpa using hu
theorem one_cells {w : World} {g : Nat} {t : TypeId} {a : Value} (h : w.heap[g]? = some (.cells #[a] t (0, 0))) : w.cell? ⟨g, 0, none⟩ = some a ∧ w.frozen? ⟨g, 0, none⟩ = false := by
  refine ⟨?_, ?_⟩
  · unfold World.cell?; simp only [h]; rfl
  · unfold World.frozen?; simp only [h]; simp
theorem key_at (key : ByteArray) (i : Nat) (h : i < key.size) : key[i] = key.data.toList.getD i 0 := by
  rw [List.getD_eq_getElem?_getD, List.getElem?_eq_getElem (by exact h)]
  rfl
theorem sum_wrap (sm a : Nat) (u : UInt8) (hs : sm ≤ 3) (ha : a ≤ 255) : wrap64 ((sm : Int) + wrap64 ((a : Int) + wrap64 (u.toNat : Int))) = ((sm + (a + u.toNat) : Nat) : Int) := by
  have hu := u.toNat_lt
  generalize u.toNat = y at hu
  rw [IntWalk.wrap64_in (y : Int) ⟨by omega, by omega⟩, IntWalk.wrap64_in ((a : Int) + y) ⟨by omega, by omega⟩, IntWalk.wrap64_in ((sm : Int) + ((a : Int) + y)) ⟨by omega, by omega⟩]
  omega
theorem cast3 (a b c : Nat) : (a : Int) + ((b : Int) + (c : Int)) = ((a + (b + c) : Nat) : Int) := by omega
theorem div_val (T : Nat) : Value.int .i64 ((T : Int) / 256) = Value.int .i64 ((T / 256 : Nat) : Int) := congrArg _ (by omega)
theorem mod_val (T : Nat) : ((T : Nat) : Int) % 256 = ((UInt8.ofNat T).toNat : Int) := by rw [UInt8.toNat_ofNat']; omega
theorem end_at (acc : List Nat) (key : List UInt8) (k : Nat) (h : k < 16) : (endL acc key).getD k 0 = UInt8.ofNat (sumA acc key k + (acc.getD k 0 + (key.getD (16 + k) 0).toNat)) := by simp [endL, h]
theorem sumA_succ (acc : List Nat) (key : List UInt8) (k : Nat) : sumA acc key (k + 1) = (sumA acc key k + (acc.getD k 0 + (key.getD (16 + k) 0).toNat)) / 256 := rfl
theorem row_set16 {w : World} {g k T : Nat} {t : TypeId} {l : List UInt8} (h : w.rowIs g t 16 (fun j => .int .u8 (if j < k then ((l.getD j 0).toNat : Int) else 0))) (hT : l.getD k 0 = UInt8.ofNat T) :
    (w.setCell ⟨g, k, none⟩ (.int .u8 ((T : Int) % 256))).rowIs g t 16 (fun j => .int .u8 (if j < k + 1 then ((l.getD j 0).toNat : Int) else 0)) := by
  rw [mod_val, ← hT]
  refine (h.set k _).congr fun j _ => ?_
  by_cases hj : j = k
  · rw [if_pos hj, if_pos (by omega), hj]
  · rw [if_neg hj]
    by_cases h2 : j < k
    · rw [if_pos h2, if_pos (by omega)]
    · rw [if_neg h2, if_neg (by omega)]
theorem rd_end {w : World} {g : Nat} {t : TypeId} {acc : List Nat} {key : List UInt8} (h : w.rowIs g t 16 (fun j => .int .u8 (if j < 16 then (((endL acc key).getD j 0).toNat : Int) else 0))) : Rd w (some ⟨g, 0, none⟩) (bytesV (endL acc key)) := fun j u hu => by
  have hj : j < 16 := by
    rcases Nat.lt_or_ge j 16 with h | h
    · exact h
    · simp [bytesV, endL, h] at hu
  refine ⟨_, 0, rfl, ?_⟩
  rw [Nat.zero_add, h.cell hj, if_pos hj]
  have hl : j < (endL acc key).length := by simp [endL]; exact hj
  have : u = .int .u8 ((endL acc key)[j].toNat : Int) := by
    rw [bytesV, List.getElem?_map, List.getElem?_eq_getElem hl] at hu
    simpa [eq_comm] using hu
  rw [this, List.getD_eq_getElem?_getD, List.getElem?_eq_getElem hl]
  rfl
theorem tag_any0 (key s : ByteArray) (w : World) (hk : key.size = 32) (hs : s.size ≤ 8200) :
    Calls Tryz.prog 109 #[.string key, .string s] w fun e w' => e = .returned (.tuple #[.string (bs (tagL key.data.toList s)), .int .i64 0]) ∧ Below w.heap.size w w' := by
  have HK := Lib.hid hk
  have HS := Lib.hid hs
  have d1 : ((key.size : Int) != 32) = false := by simp; omega
  have d2 : decide ((s.size : Int) > 8200) = false := by simp; omega
  have e32 : (16 : Int) ≤ (key.size : Int) := by omega
  have hk16 : (key.extract 0 16).size = 16 := by rw [ByteArray.size_extract]; omega
  have hcl : (key.extract 0 16).data.toList = key.data.toList.take 16 := by rw [extract_bs, bs_data, List.drop_zero]
  have HC := Lib.hid (show ∀ W, Calls Tryz.prog 123 #[.string (key.extract 0 16)] W fun e w' => e = .returned (.tuple #[.string (bs (clampL (key.data.toList.take 16))), .bool true]) ∧ Below W.heap.size W w' from fun W => by rw [← hcl]; exact clamp_any _ W hk16)
  have hl16 : (clampL (key.data.toList.take 16)).length = 16 := by rw [clampL_len, List.length_take, len_data]; omega
  have HR := Lib.hid (show digsL (clampL (key.data.toList.take 16)) ++ [0] = keyR key.data.toList from rfl)
  have HD := Lib.hid (show ∀ W M c, Rd W M (ints (natI [0])) → Calls Tryz.prog 124 #[.string (bs (clampL (key.data.toList.take 16))), .slice M 1 c] W fun e w' => ∃ A n cap, e = .returned (.slice A n cap) ∧ n = 17 ∧ n ≤ cap ∧ cap ≤ maxLen ∧ Rd w' A (ints (natI (keyR key.data.toList))) ∧ Below W.heap.size W w' from fun W M c h => (dof_any (bs (clampL (key.data.toList.take 16))) 0 M c W h (by rw [bs_size, hl16]; omega)).mono fun e w' ⟨A, n, cap, h1, h2, h3⟩ => ⟨A, n, cap, h1, by rw [h2, bs_size, hl16], h3⟩)
  have Hkr := Lib.hid (keyR_row (key := key.data.toList) hk)
  have hmk : ∀ W, (Instr.makeSlice 71 (.int .i64 17) (.int .i64 17)).run Tryz.prog W = .ok (.slice (some ⟨W.heap.size, 0, none⟩) 17 17) (W.alloc (.cells (madeCells #[.int .i64 0] 17) 3)) := fun W => run_make_row' (P := Tryz.prog) 71 3 (.int .i64 0) 8 Tryz.underlying71 int_info rfl .i64 .i64 17 (by omega) (by omega) W
  clear hk hs hk16 hcl hl16
  refine (callsIn_wide (n := 3)).1 ?_
  refine callsIn_of_wp_marks Tryz.func109 rfl trivial ?_ rfl
  simp only [Tryz.ntmps109, List.size_toArray, List.length_cons, List.length_nil, Nat.reduceAdd, Nat.reduceSub, Array.replicate_succ, Array.replicate_zero, List.push_toArray, List.append_toArray, List.nil_append, List.cons_append]
  gi_wp2_with (first
    | (refine ⟨trivial, ?_⟩; gi_at_call 123; refine (callsIn_wide.2 (HC.out _)).mono ?_; rintro e w1 ⟨rfl, hw1⟩)
    | (refine ⟨trivial, ?_⟩; gi_at_call 124; refine (callsIn_wide.2 (HD.out _ _ 1 (show Rd _ _ (ints (natI [0])) from rd_new' w1 3 #[.int .i64 0] _ rfl))).mono ?_; rintro e w2 ⟨R, n, d, rfl, rfl, hd1, hd2, hrd, hw2⟩)
    | (refine ⟨trivial, ?_⟩; gi_at_call 125; refine (parts_in Fence.wide _ trivial rfl _ _).mono ?_; rintro e w3 ⟨rfl, rfl⟩))
  obtain ⟨N, hN⟩ : ∃ N, N = (s.size + 15) / 16 := ⟨_, rfl⟩
  have HN := Lib.hid hN
  clear hN
  have hsN : s.size ≤ 1000000000 := by have := HS.out; omega
  obtain ⟨h8, hz, h9, hs9, hb4⟩ := four_blk w2 #[.slice R 17 d] (madeCells #[.int .i64 0] 17) #[.slice (some ⟨w2.heap.size + 1, 0, none⟩) 17 17] #[.string s] 71 3 71 9
  have hal1 := (Below.refl w1.heap.size w1).alloc (Nat.le_refl _) (.cells #[.int .i64 0] 3)
  have HW2 := Lib.hid (Below.chain hw1 (Below.chain hal1 hw2))
  have HW3 := Lib.hid (Below.chain HW2.out hb4)
  have hrd3 := hrd.below hb4
  have hz3 : Rd (((((w2.alloc (.cells #[.slice R 17 d] 71)).alloc (.cells (madeCells #[.int .i64 0] 17) 3)).alloc (.cells #[.slice (some ⟨w2.heap.size + 1, 0, none⟩) 17 17] 71)).alloc (.cells #[.string s] 9))) (some ⟨w2.heap.size + 1, 0, none⟩) (ints (natI zeros17)) := rd_made hz
  have hsz : (((((w2.alloc (.cells #[.slice R 17 d] 71)).alloc (.cells (madeCells #[.int .i64 0] 17) 3)).alloc (.cells #[.slice (some ⟨w2.heap.size + 1, 0, none⟩) 17 17] 71)).alloc (.cells #[.string s] 9))).heap.size = w2.heap.size + 1 + 1 + 1 + 1 := by simp
  generalize ((((w2.alloc (.cells #[.slice R 17 d] 71)).alloc (.cells (madeCells #[.int .i64 0] 17) 3)).alloc (.cells #[.slice (some ⟨w2.heap.size + 1, 0, none⟩) 17 17] 71)).alloc (.cells #[.string s] 9)) = w3 at h8 h9 hs9 hb4 HW3 hrd3 hz3 hsz ⊢
  have hle2 : w.heap.size ≤ w2.heap.size := HW2.out.size
  obtain ⟨g, hg⟩ : ∃ g, g = w2.heap.size := ⟨_, rfl⟩
  rw [← hg] at h8 h9 hs9 hz3 hsz hle2 ⊢
  have Hd := Lib.hid (And.intro hd1 hd2)
  have Hsz := Lib.hid hsz
  clear hg hz hb4 hal1 hw1 hw2 hrd hd1 hd2 hmk
  refine wpIn_rangeFunc_ownF rfl (by omega) (gf := 140) (lb := #[.pointer (some ⟨g + 1 + 1 + 1, 0, none⟩)]) rfl trivial (enters_of Tryz.func140 (by kernel_rfl) rfl)
    (encs := fun x : Prt => #[.string x.1]) (Kp := KeepB [g + 1 + 1 + 1]) (S := fun ys => ys = prtsTo s N) (Sp := fun _ => True) (N := N) (w0 := w3)
    (fun l J Jx W hW _ _ hY h0 => parts1_in Fence.wide 2 trivial rfl (by omega) l (g + 1 + 1 + 1) N s hsN HN.out J Jx hY W (cell_of_one (cells_below hs9 hW)) h0)
    keepB_t (keepB_b (by simp [hsz])) (Below.refl _ _) (fun _ => rfl)
    (TI w g (g + 1 + 1) (g + 1 + 1 + 1) R d (keyR key.data.toList))
    (fun _ _ _ => False)
    (ti_own _ _ _ _ _ _ _ _ (by rw [hsz]; omega))
    (fun _ _ _ _ _ hs _ _ => hs)
    ⟨⟨_, 17, h9, by omega, by omega, hz3⟩, h8, hrd3, HW3.out, by rw [hsz]; omega⟩ ?a1 ?assign ?body ?done ?stop
  case assign =>
    intro l x W K hK
    gi_wp2
    exact hK
  case body =>
    rintro l pre x W hI hlen
    obtain ⟨B, c, h9', hc1, hc2, hB⟩ := hI.ex
    have HI := Lib.hid hI
    have H9 := Lib.hid h9'
    have HB := Lib.hid hB
    have Hx := Lib.hid x.2
    obtain ⟨c9, f9⟩ := one_cells h9'
    obtain ⟨c8, f8⟩ := one_cells hI.h8
    have Hsn := Lib.hid (tgAccT_snoc (keyR key.data.toList) pre x)
    clear hI h9' hB
    gi_wp2_with (refine ⟨trivial, ?_⟩; gi_at_call 126; refine (CallsIn.inRound l (callsIn_wide.2 (tstep_any B R c d (tgAccT (keyR key.data.toList) pre) (keyR key.data.toList) x.1 W HB.out HI.out.rd hc1 hc2 Hd.out.1 (Nat.le_trans Hd.out.2 (by decide)) (tgAccT_row _ _) Hkr.out Hx.out.1 Hx.out.2))).mono ?_; rintro e w' ⟨B', rfl, hB', hb⟩; have H9' := cells_below H9.out hb; obtain ⟨c9', f9'⟩ := one_cells H9')
    rename_i w'
    have hG := gb_set (gb_of_below hb (some (g + 1 + 1))) 0 (.slice B' 17 17)
    have hset := blk_set H9' 0 (.slice B' 17 17)
    simp only [List.setIfInBounds_toArray, List.set_cons_zero] at hset
    refine ⟨KeepsOthers.of_grownBy hG (fun j o e ho => ?_), keepB_gb ?_ ?_ hG, ⟨⟨B', 17, hset, by omega, by omega, by rw [Hsn.out]; exact rd_slice hB' H9' _⟩, ?_, rd_slice (HI.out.rd.below hb) H9' _, ?_, Nat.lt_of_lt_of_le HI.out.gs hG.size⟩⟩
    · obtain rfl := Option.some.inj e
      rw [H9.out] at ho
      obtain rfl := Option.some.inj ho
      rfl
    · have := HI.out.gs
      simp; omega
    · simp
    · exact (Below.heap_setCell _ ⟨g + 1 + 1, 0, none⟩ _ g (by simp; omega)).trans (cells_below HI.out.h8 hb)
    · exact (HI.out.bw.trans (hb.mono HI.out.bw.size)).setCell (by simp; omega) _
  case done =>
    rintro D ys W hD rfl hI hK
    have hmk : (Instr.makeSlice 72 (.int .i64 16) (.int .i64 16)).run Tryz.prog W = .ok (.slice (some ⟨W.heap.size, 0, none⟩) 16 16) (W.alloc (.cells (madeCells #[.int .u8 0] 16) 5)) := run_make_row' (P := Tryz.prog) 72 5 (.int .u8 0) 1 Tryz.underlying72 uint8_info rfl .i64 .i64 16 (by omega) (by omega) W
    obtain ⟨B, c, h9', hc1, hc2, hB⟩ := hI.ex
    obtain ⟨acc, hacc⟩ : ∃ acc, acc = tgAccT (keyR key.data.toList) (prtsTo s N) := ⟨_, rfl⟩
    rw [← hacc] at hB
    have HE := Lib.hid (show tagL key.data.toList s = endL acc key.data.toList by rw [hacc, HN.out]; rfl)
    have hrow : tgRowP acc := by rw [hacc]; exact tgAccT_row _ _
    have hale : ∀ i, acc.getD i 0 ≤ 255 := fun i => by
      rcases Nat.lt_or_ge i acc.length with h | h
      · rw [List.getD_eq_getElem?_getD, List.getElem?_eq_getElem h]
        exact hrow.2.1 _ (List.getElem_mem _)
      · rw [List.getD_eq_getElem?_getD, List.getElem?_eq_none h]
        exact Nat.zero_le _
    have Hle := Lib.hid hale
    have Hsum := Lib.hid (sumA_le hale key.data.toList)
    have H17 := Lib.hid hrow.1
    have H9 := Lib.hid h9'
    have HB := Lib.hid hB
    have HKd := Lib.hid hK
    have HI := Lib.hid hI
    obtain ⟨bb, off, hBe, _⟩ := nat_at hB (i := 0) (by rw [hrow.1]; omega)
    subst hBe
    have Hc := Lib.hid (And.intro hc1 hc2)
    have hal := (Below.refl W.heap.size W).alloc (Nat.le_refl _) (.cells (madeCells #[.int .u8 0] 16) 5)
    have Hal := Lib.hid hal
    clear hacc hrow hale hB h9' hI hK hal HC HD HR Hkr hc1 hc2
    gi_wp2
    refine wpIn_wide.2 ?_
    go_loopw [12, 43] (fun v y wr => ∃ k : Nat, k ≤ 16 ∧ y = .int .i64 (k : Nat) ∧ v = .int .i64 ((sumA acc key.data.toList k : Nat) : Int) ∧ wr.rowIs W.heap.size 5 16 (fun j => .int .u8 (if j < k then (((endL acc key.data.toList).getD j 0).toNat : Int) else 0)) ∧ Below W.heap.size W wr) (fun _ y _ => 16 - (intOf y).toNat)
    case atStart => exact ⟨0, by omega, rfl, rfl, World.rowIs_made _ _ _ _, Hal.out⟩
    case round =>
      obtain ⟨k, hk, rfl, rfl, hrw, hb⟩ := hrel
      have Hrw := Lib.hid hrw
      have Hb := Lib.hid hb
      by_cases hlt : k < 16
      · have e1 : decide ((k : Int) < (16 : Int)) = true := by simp; omega
        have e2 : (k : Int) < (16 : Int) := by omega
        have e3 : (k : Int) < (17 : Int) := by omega
        have hcr := hrw.cell (i := k) hlt
        have hfr := hrw.frozen k
        have c9 := (one_cells (cells_below H9.out hb)).1
        obtain ⟨bb', off', hBe, ca⟩ := nat_at (HB.out.below hb) (i := k) (by rw [H17.out]; omega)
        injection hBe with hBe
        injection hBe with h1 h2
        subst h1 h2
        have ha := Hle.out k
        have hs := Hsum.out k
        have e4 : 16 + (k : Int) < (key.size : Int) := by have := HK.out; omega
        have e5 : (0 : Int) ≤ 16 + (k : Int) := by omega
        have e6 : 16 + k < key.size := by have := HK.out; omega
        have HS1 := Lib.hid (sumA_succ acc key.data.toList k)
        have HS2 := Lib.hid (end_at acc key.data.toList k hlt)
        rw [← key_at key (16 + k) e6] at HS1 HS2
        obtain ⟨y, hy, hy2, hy3⟩ : ∃ y : Nat, wrap64 (key[16 + k].toNat : Int) = (y : Int) ∧ y ≤ 255 ∧ key[16 + k].toNat = y := ⟨key[16 + k].toNat, IntWalk.wrap64_in _ ⟨by omega, by have := key[16 + k].toNat_lt; omega⟩, by have := key[16 + k].toNat_lt; omega, rfl⟩
        rw [hy3] at HS1 HS2
        clear hy3
        generalize sumA acc key.data.toList k = sm at hs HS1 HS2 ⊢
        generalize acc.getD k 0 = a at ha ca HS1 HS2
        clear hrw hb
        go_wp2_with fail
        go_quiet (fail)
        rename_i nq
        go_wp2_with fail
        all_goals
          go_roundw
          case rel =>
            refine ⟨k + 1, by omega, by go_num, ?_, ?_, (below_drewN Hb.out nq).setCell (Nat.le_refl _) _⟩
            · rw [HS1.out, cast3]
              exact div_val _
            · rw [cast3]
              exact row_set16 (show (wr.drewN nq).rowIs _ _ _ _ from Hrw.out) HS2.out
          case measure => simp [intOf]; omega
      · obtain rfl : k = 16 := by omega
        have e1 : decide (((16 : Nat) : Int) < (16 : Int)) = false := by simp
        have hrd := rd_end hrw
        have hcv := conv_rd hrd 16 16 (by simp [endL])
        have hK' := cells_below HKd.out hb
        clear hrw hrd
        go_wp2_with fail
        gi_wp2
        refine ⟨by simp, .inl ⟨_, _, rfl, run_takeDeferred hK', ?_⟩⟩
        refine ⟨_, results_tmp2 rfl _ _ _, ?_, ?_⟩
        · rw [HE.out]
          rfl
        · exact (HI.out.bw.trans (Hb.out.mono HI.out.bw.size)).trans (belowK_b (w := w) (Nat.le_refl _) _ D _ _ (by have := hD; have := hsz; have := hle2; omega) hK' rfl rfl)
  case stop =>
    rintro D c pre W _ _ h _
    exact h.elim
/-- What Tag tells: the error's number, and the bytes. -/
def tagE (key s : ByteArray) : Nat := if key.size ≠ 32 then 1 else if 8200 < s.size then 2 else 0
def tagS (key s : ByteArray) : ByteArray := if tagE key s = 0 then bs (tagL key.data.toList s) else ⟨#[]⟩
theorem tag_any (key s : ByteArray) (w : World) (hk9 : key.size ≤ maxLen) (hs9 : s.size ≤ maxLen) :
    Calls Tryz.prog 109 #[.string key, .string s] w fun e w' => e = .returned (.tuple #[.string (tagS key s), .int .i64 (tagE key s : Nat)]) ∧ Below w.heap.size w w' := by
  by_cases hk : key.size = 32
  · by_cases hs : 8200 < s.size
    · have e : tagE key s = 2 := by unfold tagE; rw [if_neg (by omega), if_pos hs]
      have e' : tagS key s = ⟨#[]⟩ := by unfold tagS; rw [e]; rfl
      rw [e, e']
      have d1 : ((key.size : Int) != 32) = false := by simp; omega
      have d2 : decide ((s.size : Int) > 8200) = true := by simp; omega
      clear e e' hk hs
      go_enter Tryz.func109, Tryz.ntmps109
      go_wp2_with fail
      go_ret2
      exact ⟨rfl, Below.refl _ _⟩
    · have e : tagE key s = 0 := by unfold tagE; rw [if_neg (by omega), if_neg hs]
      have e' : tagS key s = bs (tagL key.data.toList s) := by unfold tagS; rw [if_pos e]
      rw [e, e']
      exact tag_any0 key s w hk (by omega)
  · have e : tagE key s = 1 := by unfold tagE; rw [if_pos hk]
    have e' : tagS key s = ⟨#[]⟩ := by unfold tagS; rw [e]; rfl
    rw [e, e']
    have d1 : ((key.size : Int) != 32) = true := by simp; omega
    clear e e' hk
    go_enter Tryz.func109, Tryz.ntmps109
    go_wp2_with fail
    go_ret2
    exact ⟨rfl, Below.refl _ _⟩

end Go.Proofs.YtieekajjoikepaaGreatDoor
