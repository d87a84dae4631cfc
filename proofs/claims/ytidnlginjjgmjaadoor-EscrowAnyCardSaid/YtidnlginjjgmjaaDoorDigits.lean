/-
  Digits of base two in rows, and rows of them cut into parts: plain facts, no program in sight.
-/
import Derived.WalkKit
namespace Go.Proofs.YtidnlginjjgmjaaDoor
set_option linter.unusedVariables false

/-- The k digits of n, the highest first. -/
def bitsN : Nat → Nat → List Nat
  | 0, _ => []
  | k + 1, n => bitsN k (n / 2) ++ [n % 2]
/-- The number of digits. -/
def numOf (l : List Nat) : Nat := l.foldl (fun a b => 2 * a + b) 0

theorem bitsN_len : ∀ k n, (bitsN k n).length = k
  | 0, _ => rfl
  | k + 1, n => by simp [bitsN, bitsN_len k]
theorem bitsN_dig : ∀ k n, ∀ x ∈ bitsN k n, x < 2
  | 0, _, x, h => by cases h
  | k + 1, n, x, h => by
    rcases List.mem_append.1 h with h | h
    · exact bitsN_dig k _ x h
    · simp at h; omega
theorem numOf_snoc (l : List Nat) (b : Nat) : numOf (l ++ [b]) = 2 * numOf l + b := by simp [numOf]
theorem numOf_bits : ∀ k n, n < 2 ^ k → numOf (bitsN k n) = n
  | 0, n, h => by simp at h; subst h; rfl
  | k + 1, n, h => by
    rw [bitsN, numOf_snoc, numOf_bits k (n / 2) (by rw [Nat.pow_succ] at h; omega)]
    omega
theorem snoc_of {α : Type} (l : List α) (h : l ≠ []) : ∃ m b, l = m ++ [b] := ⟨l.dropLast, l.getLast h, (List.dropLast_concat_getLast h).symm⟩
theorem bits_num : ∀ k (l : List Nat), l.length = k → (∀ x ∈ l, x < 2) → bitsN k (numOf l) = l
  | 0, l, h, _ => by rw [List.eq_nil_of_length_eq_zero h]; rfl
  | k + 1, l, h, hd => by
    obtain ⟨m, b, rfl⟩ := snoc_of l (by intro e; rw [e] at h; cases h)
    have hb : b < 2 := hd b (by simp)
    rw [numOf_snoc, bitsN, show (2 * numOf m + b) / 2 = numOf m by omega, show (2 * numOf m + b) % 2 = b by omega,
      bits_num k m (by simpa using h) (fun x hx => hd x (by simp [hx]))]
theorem numOf_lt : ∀ k (l : List Nat), l.length = k → (∀ x ∈ l, x < 2) → numOf l < 2 ^ k
  | 0, l, h, _ => by rw [List.eq_nil_of_length_eq_zero h]; decide
  | k + 1, l, h, hd => by
    obtain ⟨m, b, rfl⟩ := snoc_of l (by intro e; rw [e] at h; cases h)
    have hb : b < 2 := hd b (by simp)
    have := numOf_lt k m (by simpa using h) (fun x hx => hd x (by simp [hx]))
    rw [numOf_snoc, Nat.pow_succ]
    omega
theorem bitsN_add (a : Nat) : ∀ b x y, y < 2 ^ b → bitsN (a + b) (x * 2 ^ b + y) = bitsN a x ++ bitsN b y
  | 0, x, y, h => by simp at h; subst h; simp [bitsN]
  | b + 1, x, y, h => by
    rw [Nat.pow_succ] at h
    rw [← Nat.add_assoc, bitsN, bitsN, show (x * 2 ^ (b + 1) + y) / 2 = x * 2 ^ b + y / 2 by rw [Nat.pow_succ, ← Nat.mul_assoc]; generalize x * 2 ^ b = m; omega,
      show (x * 2 ^ (b + 1) + y) % 2 = y % 2 by rw [Nat.pow_succ, ← Nat.mul_assoc]; generalize x * 2 ^ b = m; omega, bitsN_add a b x (y / 2) (by omega), List.append_assoc]
theorem bitsN_zero : ∀ k, bitsN k 0 = List.replicate k 0
  | 0 => rfl
  | k + 1 => by rw [bitsN, Nat.zero_div, bitsN_zero k, List.replicate_succ']
theorem numOf_zero (k : Nat) : numOf (List.replicate k 0) = 0 := by
  rw [← bitsN_zero, numOf_bits k 0 (Nat.two_pow_pos k)]
theorem bits_split (a b n : Nat) (h : n < 2 ^ (a + b)) : bitsN (a + b) n = bitsN a (n / 2 ^ b) ++ bitsN b (n % 2 ^ b) := by
  have h2 := Nat.mod_lt n (Nat.two_pow_pos b)
  rw [← bitsN_add a b _ _ h2, Nat.div_add_mod']

/-- The digits of numbers, k of each. -/
def flat (k : Nat) (vs : List Nat) : List Nat := vs.flatMap (bitsN k)
theorem flat_snoc (k : Nat) (vs : List Nat) (v : Nat) : flat k (vs ++ [v]) = flat k vs ++ bitsN k v := by simp [flat]
theorem flat_append (k : Nat) (vs us : List Nat) : flat k (vs ++ us) = flat k vs ++ flat k us := by simp [flat]
theorem flat_cons (k : Nat) (v : Nat) (vs : List Nat) : flat k (v :: vs) = bitsN k v ++ flat k vs := by simp [flat]
theorem flat_length (k : Nat) : ∀ vs, (flat k vs).length = k * vs.length
  | [] => rfl
  | v :: vs => by rw [flat_cons, List.length_append, bitsN_len, flat_length k vs, List.length_cons, Nat.mul_succ, Nat.add_comm]
theorem flat_dig (k : Nat) (vs : List Nat) : ∀ x ∈ flat k vs, x < 2 := fun x hx => by
  obtain ⟨v, _, h⟩ := List.mem_flatMap.1 hx
  exact bitsN_dig k v x h
theorem bits_inj (k n m : Nat) (hn : n < 2 ^ k) (hm : m < 2 ^ k) (h : bitsN k n = bitsN k m) : n = m := by rw [← numOf_bits k n hn, h, numOf_bits k m hm]
/-- Rows of numbers whose digits are the same, but for fewer than k at the end, are the same. -/
theorem flat_inj (k : Nat) (hk : 0 < k) : ∀ (vs us : List Nat) (r t : List Nat), (∀ v ∈ vs, v < 2 ^ k) → (∀ u ∈ us, u < 2 ^ k) → r.length < k → t.length < k → flat k vs ++ r = flat k us ++ t → vs = us ∧ r = t
  | [], [], r, t, _, _, _, _, h => ⟨rfl, by simpa [flat] using h⟩
  | [], u :: us, r, t, _, _, hr, _, h => by
    have := congrArg List.length h
    rw [flat_cons] at this
    simp [flat, bitsN_len] at this
    omega
  | v :: vs, [], r, t, _, _, _, ht, h => by
    have := congrArg List.length h
    rw [flat_cons] at this
    simp [flat, bitsN_len] at this
    omega
  | v :: vs, u :: us, r, t, hv, hu, hr, ht, h => by
    rw [flat_cons, flat_cons, List.append_assoc, List.append_assoc] at h
    have h1 := List.append_inj h (by rw [bitsN_len, bitsN_len])
    have e := bits_inj k v u (hv v (by simp)) (hu u (by simp)) h1.1
    obtain ⟨e2, e3⟩ := flat_inj k hk vs us r t (fun x hx => hv x (by simp [hx])) (fun x hx => hu x (by simp [hx])) hr ht h1.2
    exact ⟨by rw [e, e2], e3⟩

/-- A row of digits in parts of k, each as a number; what is left over is dropped. -/
def grpF (k : Nat) : Nat → List Nat → List Nat
  | 0, _ => []
  | f + 1, l => if l.length < k then [] else numOf (l.take k) :: grpF k f (l.drop k)
def grp (k : Nat) (l : List Nat) : List Nat := grpF k l.length l
theorem grpF_flat (k : Nat) (r : List Nat) (hr : r.length < k) : ∀ (vs : List Nat) (f : Nat), vs.length ≤ f → (∀ v ∈ vs, v < 2 ^ k) → grpF k f (flat k vs ++ r) = vs
  | [], 0, _, _ => rfl
  | [], f + 1, _, _ => by simp [grpF, flat, hr]
  | v :: vs, 0, h, _ => by simp at h
  | v :: vs, f + 1, h, hv => by
    rw [flat_cons, List.append_assoc, grpF, if_neg (by rw [List.length_append, bitsN_len]; omega)]
    have e1 : (bitsN k v ++ (flat k vs ++ r)).take k = bitsN k v := by rw [List.take_append_of_le_length (by rw [bitsN_len]; omega), List.take_of_length_le (by rw [bitsN_len]; omega)]
    have e2 : (bitsN k v ++ (flat k vs ++ r)).drop k = flat k vs ++ r := by
      have := List.drop_left (l₁ := bitsN k v) (l₂ := flat k vs ++ r)
      rwa [bitsN_len] at this
    rw [e1, e2, numOf_bits k v (hv v (by simp)), grpF_flat k r hr vs f (by simp at h; omega) (fun x hx => hv x (by simp [hx]))]
theorem grp_flat (k : Nat) (hk : 0 < k) (vs r : List Nat) (hv : ∀ v ∈ vs, v < 2 ^ k) (hr : r.length < k) : grp k (flat k vs ++ r) = vs := by
  refine grpF_flat k r hr vs _ ?_ hv
  rw [List.length_append, flat_length]
  have : vs.length ≤ k * vs.length := Nat.le_mul_of_pos_left _ hk
  omega
theorem grpF_length_le (k : Nat) : ∀ (f : Nat) (l : List Nat), (grpF k f l).length ≤ f
  | 0, _ => Nat.le_refl _
  | f + 1, l => by
    unfold grpF
    split
    · simp
    · simp only [List.length_cons]
      have := grpF_length_le k f (l.drop k)
      omega
theorem grp_length_le (k : Nat) (l : List Nat) : (grp k l).length ≤ l.length := grpF_length_le k _ l
theorem grpF_lt (k : Nat) : ∀ (f : Nat) (l : List Nat), (∀ x ∈ l, x < 2) → ∀ v ∈ grpF k f l, v < 2 ^ k
  | 0, l, _, v, h => by cases h
  | f + 1, l, hd, v, h => by
    unfold grpF at h
    split at h
    · cases h
    · rcases List.mem_cons.1 h with h | h
      · rw [h]
        exact numOf_lt k _ (by simp; omega) (fun x hx => hd x (List.mem_of_mem_take hx))
      · exact grpF_lt k f _ (fun x hx => hd x (List.mem_of_mem_drop hx)) v h
theorem flat_grpF (k : Nat) (hk : 0 < k) : ∀ (f : Nat) (l : List Nat), l.length ≤ f → (∀ x ∈ l, x < 2) → ∃ r, l = flat k (grpF k f l) ++ r ∧ r.length < k
  | 0, l, h, _ => ⟨[], by rw [List.eq_nil_of_length_eq_zero (by omega : l.length = 0)]; rfl, hk⟩
  | f + 1, l, h, hd => by
    unfold grpF
    split
    · rename_i hlt
      exact ⟨l, by simp [flat], hlt⟩
    · rename_i hge
      obtain ⟨r, e, hr⟩ := flat_grpF k hk f (l.drop k) (by rw [List.length_drop]; omega) (fun x hx => hd x (List.mem_of_mem_drop hx))
      refine ⟨r, ?_, hr⟩
      rw [flat_cons, bits_num k (l.take k) (by simp; omega) (fun x hx => hd x (List.mem_of_mem_take hx)), List.append_assoc, ← e, List.take_append_drop]
theorem flat_grp (k : Nat) (hk : 0 < k) (l : List Nat) (hd : ∀ x ∈ l, x < 2) : ∃ r, l = flat k (grp k l) ++ r ∧ r.length < k := flat_grpF k hk _ l (Nat.le_refl _) hd
end Go.Proofs.YtidnlginjjgmjaaDoor
