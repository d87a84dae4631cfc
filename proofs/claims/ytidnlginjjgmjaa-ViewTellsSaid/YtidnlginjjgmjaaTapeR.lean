/-
  The document's tape, by its basis of polynomials, is the program's: plain facts, no program in sight.
-/
import Derived.Test.YtidnlginjjgmjaaTapePlain
namespace Go.Proofs.Ytidnlginjjgmjaa
set_option linter.unusedVariables false

/-- The polynomial that is 1 at one place and 0 at the others, k places done. -/
def basisTo (xs : List UInt8) (at' : Nat) : Nat → List UInt8
  | 0 => [1]
  | k + 1 => if k = at' then basisTo xs at' k else scaleP (gi (xs.getD at' 0 ^^^ xs.getD k 0)) (zeroStep (basisTo xs at' k) (xs.getD k 0))
theorem basis_skip (xs : List UInt8) (at' : Nat) : basisTo xs at' (at' + 1) = basisTo xs at' at' := by rw [basisTo, if_pos rfl]
theorem basis_step (xs : List UInt8) (at' k : Nat) (h : k ≠ at') : basisTo xs at' (k + 1) = scaleP (gi (xs.getD at' 0 ^^^ xs.getD k 0)) (zeroStep (basisTo xs at' k) (xs.getD k 0)) := by rw [basisTo, if_neg h]
def basisN (at' k : Nat) : Nat := if at' < k then k else k + 1
theorem basis_len (xs : List UInt8) (at' : Nat) : ∀ k, (basisTo xs at' k).length = basisN at' k
  | 0 => by simp [basisTo, basisN]
  | k + 1 => by
    by_cases h : k = at'
    · subst h
      rw [basis_skip, basis_len xs k k, basisN, basisN, if_neg (by omega), if_pos (by omega)]
    · rw [basis_step xs at' k h, scaleP, List.length_map, zeroStep_len, basis_len xs at' k, basisN, basisN]
      split <;> split <;> omega
theorem basis_self (xs : List UInt8) (at' : Nat) (n : Nat) (hn : ∀ k, k < n → k ≠ at' → xs.getD at' 0 ≠ xs.getD k 0) : ∀ k, k ≤ n → evalP (basisTo xs at' k) (xs.getD at' 0) = 1
  | 0, _ => by simp [basisTo, evalP, gm_zero]
  | k + 1, h => by
    have ih := basis_self xs at' n hn k (by omega)
    by_cases e : k = at'
    · subst e
      rw [basis_skip, ih]
    · rw [basis_step xs at' k e, eval_scale, zeroStep_eval, ih, gm_one, gm_comm, gm_gi _ (x_ne (hn k (by omega) e))]
theorem basis_other (xs : List UInt8) (at' j : Nat) (hj : j ≠ at') : ∀ k, j < k → evalP (basisTo xs at' k) (xs.getD j 0) = 0
  | 0, h => by omega
  | k + 1, h => by
    by_cases e : k = at'
    · subst e
      rw [basis_skip, basis_other xs k j hj k (by omega)]
    · rw [basis_step xs at' k e, eval_scale, zeroStep_eval]
      by_cases e2 : j = k
      · rw [e2, x_self, zero_gm, gm_zero]
      · rw [basis_other xs at' j hj k (by omega), gm_zero, gm_zero]
/-- The polynomial through the values, i of them done. -/
def rsumTo (xs ys : List UInt8) : Nat → List UInt8
  | 0 => List.replicate xs.length 0
  | i + 1 => addP (rsumTo xs ys i) ((basisTo xs i xs.length).map fun b => gm b (ys.getD i 0))
theorem rsumTo_len (xs ys : List UInt8) : ∀ i, i ≤ xs.length → (rsumTo xs ys i).length = xs.length
  | 0, _ => by simp [rsumTo]
  | i + 1, h => by
    rw [rsumTo, addP, List.length_zipWith, rsumTo_len xs ys i (by omega), List.length_map, basis_len, basisN, if_pos (by omega), Nat.min_self]
theorem rsumTo_eval (xs ys : List UInt8) (hn : xs.Nodup) (j : Nat) (hj : j < xs.length) : ∀ i, i ≤ xs.length → evalP (rsumTo xs ys i) (xs.getD j 0) = if j < i then ys.getD j 0 else 0
  | 0, _ => by rw [rsumTo, eval_zeros _ _ (by simp), if_neg (by omega)]
  | i + 1, h => by
    have e : ((basisTo xs i xs.length).map fun b => gm b (ys.getD i 0)) = scaleP (ys.getD i 0) (basisTo xs i xs.length) := List.map_congr_left fun b _ => gm_comm _ _
    rw [rsumTo, e, eval_add _ _ _ (by rw [rsumTo_len xs ys i (by omega), scaleP, List.length_map, basis_len, basisN, if_pos (by omega)]), rsumTo_eval xs ys hn j hj i (by omega), eval_scale]
    by_cases c : j = i
    · subst c
      rw [basis_self xs j xs.length (fun k hk hne e => ?_) _ (Nat.le_refl _), gm_one, if_neg (by omega), if_pos (by omega), zero_x]
      rw [getD_at _ _ hj, getD_at _ _ hk] at e
      have hp := List.pairwise_iff_getElem.1 hn
      rcases Nat.lt_or_gt_of_ne hne with c | c
      · exact hp k j hk hj c e.symm
      · exact hp j k hj hk c e
    · rw [basis_other xs i j c _ hj, gm_zero, x_zero]
      by_cases c2 : j < i
      · rw [if_pos c2, if_pos (by omega)]
      · rw [if_neg c2, if_neg (by omega)]
/-- Digit p / 32 + 1 of byte p % 32, i shares done. -/
def accR (s : List UInt8) (l : List Shr) (i p : Nat) : UInt8 := (rsumTo (0 :: xsOf l) (s.getD (p % 32) 0 :: ysOf l (p % 32)) i).getD (p / 32 + 1) 0
def accT (s : List UInt8) (l : List Shr) (i j d p : Nat) : UInt8 := if p % 32 < j ∨ (p % 32 = j ∧ p / 32 + 1 < d) then accR s l (i + 1) p else accR s l i p
def tapeTo (s : List UInt8) (l : List Shr) (i j d : Nat) : List UInt8 := (List.range (32 * l.length)).map (accT s l i j d)
theorem tapeTo_len (s : List UInt8) (l : List Shr) (i j d : Nat) : (tapeTo s l i j d).length = 32 * l.length := by simp [tapeTo]
theorem tapeTo_zero (s : List UInt8) (l : List Shr) : tapeTo s l 0 0 1 = List.replicate (32 * l.length) 0 := by
  apply List.ext_getElem
  · simp [tapeTo]
  · intro p h1 h2
    have hp : p < 32 * l.length := by simpa [tapeTo] using h1
    have h3 : p / 32 < l.length := by omega
    simp [tapeTo, accT, accR, rsumTo, xsOf, h3]
theorem accT_row (s : List UInt8) (l : List Shr) (i j p : Nat) (hp : p < 32 * l.length) : accT s l i j (l.length + 1) p = accT s l i (j + 1) 1 p := by
  rw [accT, accT]
  by_cases c : p % 32 < j ∨ (p % 32 = j ∧ p / 32 + 1 < l.length + 1)
  · rw [if_pos c, if_pos (by omega)]
  · rw [if_neg c, if_neg (by omega)]
theorem tapeTo_row (s : List UInt8) (l : List Shr) (i j : Nat) : tapeTo s l i j (l.length + 1) = tapeTo s l i (j + 1) 1 :=
  List.map_congr_left fun p hp => accT_row s l i j p (by simpa using hp)
theorem tapeTo_share (s : List UInt8) (l : List Shr) (i : Nat) : tapeTo s l i 32 1 = tapeTo s l (i + 1) 0 1 := by
  refine List.map_congr_left fun p _ => ?_
  rw [accT, accT, if_pos (by omega), if_neg (by omega)]
theorem accR_step (s : List UInt8) (l : List Shr) (i p : Nat) (hi : i < l.length + 1) (hp : p < 32 * l.length) :
    accR s l (i + 1) p = accR s l i p ^^^ gm ((basisTo (0 :: xsOf l) i (l.length + 1)).getD (p / 32 + 1) 0) ((s.getD (p % 32) 0 :: ysOf l (p % 32)).getD i 0) := by
  have hx : (0 :: xsOf l).length = l.length + 1 := by simp [xsOf]
  have h1 := rsumTo_len (0 :: xsOf l) (s.getD (p % 32) 0 :: ysOf l (p % 32)) i (by omega)
  have h2 : (basisTo (0 :: xsOf l) i (l.length + 1)).length = l.length + 1 := by rw [basis_len, basisN, if_pos hi]
  rw [accR, accR, rsumTo, hx, addP]
  rw [hx] at h1
  generalize rsumTo (0 :: xsOf l) (s.getD (p % 32) 0 :: ysOf l (p % 32)) i = a at h1
  generalize basisTo (0 :: xsOf l) i (l.length + 1) = b at h2
  have h3 : p / 32 + 1 < l.length + 1 := by omega
  rw [getD_at _ _ (by simp; omega), getD_at a _ (by omega), getD_at b _ (by omega)]
  simp
theorem tapeTo_at (s : List UInt8) (l : List Shr) (i j e : Nat) (hj : j < 32) (he : e < l.length) : (tapeTo s l i j (e + 1)).getD (32 * e + j) 0 = accR s l i (32 * e + j) := by
  have hp : 32 * e + j < 32 * l.length := by omega
  rw [getD_at _ _ (by rw [tapeTo_len]; exact hp)]
  simp only [tapeTo, List.getElem_map, List.getElem_range]
  rw [accT, if_neg (by omega)]
theorem tapeTo_set (s : List UInt8) (l : List Shr) (i j e : Nat) (hj : j < 32) (he : e < l.length) : (tapeTo s l i j (e + 1)).set (32 * e + j) (accR s l (i + 1) (32 * e + j)) = tapeTo s l i j (e + 2) := by
  apply List.ext_getElem
  · simp [tapeTo]
  · intro p h1 h2
    have hp : p < 32 * l.length := by simpa [tapeTo] using h2
    rw [List.getElem_set]
    simp only [tapeTo, List.getElem_map, List.getElem_range]
    by_cases c : 32 * e + j = p
    · subst c
      rw [if_pos rfl, accT, if_pos (by omega)]
    · rw [if_neg c, accT, accT]
      by_cases c2 : p % 32 < j ∨ (p % 32 = j ∧ p / 32 + 1 < e + 1)
      · rw [if_pos c2, if_pos (by omega)]
      · rw [if_neg c2, if_neg (by omega)]
theorem rsumTo_all (s : UInt8) (xs ys : List UInt8) (hn : xs.Nodup) (h0 : (0 : UInt8) ∉ xs) (hl : ys.length = xs.length) : rsumTo (0 :: xs) (s :: ys) (xs.length + 1) = s :: tapeP s xs ys := by
  have hn1 : (0 :: xs).Nodup := List.nodup_cons.2 ⟨h0, hn⟩
  have hlen := tapeP_len s xs ys hn h0 hl
  have hs := rsumTo_len (0 :: xs) (s :: ys) (xs.length + 1) (by simp)
  refine poly_unique (0 :: xs) _ _ hn1 (by omega) (by rw [hs]; simp [hlen]) fun x hx => ?_
  obtain ⟨j, hj, e⟩ := List.mem_iff_getElem.1 hx
  have h1 := rsumTo_eval (0 :: xs) (s :: ys) hn1 j hj (xs.length + 1) (by simp)
  rw [getD_at _ _ hj, e, if_pos (by simpa using hj)] at h1
  rw [h1]
  cases j with
  | zero =>
    simp at e
    rw [← e]
    simp [evalP, zero_gm]
  | succ j =>
    have hj' : j < xs.length := by simpa using hj
    simp at e
    rw [← e, tapeP_at s xs ys hn h0 hl j hj']
    simp [hl, hj']
/-- All shares done it is the program's tape. -/
theorem tapeTo_all (s : List UInt8) (l : List Shr) (hn : (xsOf l).Nodup) (h0 : (0 : UInt8) ∉ xsOf l) : tapeTo s l (l.length + 1) 0 1 = tapeOut s l := by
  rw [tapeTo, tapeOut, Nat.mul_comm]
  refine List.map_congr_left fun p hp => ?_
  have hx : (xsOf l).length = l.length := by simp [xsOf]
  have h := rsumTo_all (s.getD (p % 32) 0) (xsOf l) (ysOf l (p % 32)) hn h0 (by simp [xsOf, ysOf])
  rw [hx] at h
  rw [accT, if_neg (by omega), accR, h]
  rfl
end Go.Proofs.Ytidnlginjjgmjaa
