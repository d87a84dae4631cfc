/-
  The tape by which a secret has given shares: plain facts, no program in sight.
-/
import Derived.Test.YtidnlginjjgmjaaLagT
namespace Go.Proofs.Ytidnlginjjgmjaa
set_option linter.unusedVariables false

def zeroStep (l : List UInt8) (x : UInt8) : List UInt8 := addP (0 :: l) (scaleP x l ++ [0])
def zerosP (xs : List UInt8) : List UInt8 := xs.foldl zeroStep [1]
theorem zeroStep_len (l x) : (zeroStep l x).length = l.length + 1 := by simp [zeroStep, addP, scaleP]
theorem zeroStep_eval (l x y) : evalP (zeroStep l x) y = gm (y ^^^ x) (evalP l y) := by
  rw [zeroStep, eval_add _ _ _ (by simp [scaleP]), eval_snoc, eval_scale, evalP, zero_x, add_gm]
theorem zeroStep_last (l x) (h : l.getLast? = some 1) : (zeroStep l x).getLast? = some 1 := by
  have hl : 0 < l.length := by
    cases l with
    | nil => simp at h
    | cons a l => simp
  rw [List.getLast?_eq_getElem?] at h ⊢
  rw [zeroStep_len, show l.length + 1 - 1 = (l.length - 1) + 1 by omega]
  have h1 : (0 :: l)[(l.length - 1) + 1]? = some 1 := by simpa using h
  have h2 : (scaleP x l ++ [0])[(l.length - 1) + 1]? = some 0 := by
    rw [List.getElem?_append_right (by simp [scaleP]; omega)]
    simp [scaleP, show l.length - 1 + 1 - l.length = 0 by omega]
  rw [zeroStep, addP, List.getElem?_zipWith, h1, h2]
  rfl
theorem zeros_fold (xs : List UInt8) : ∀ l : List UInt8, l.getLast? = some 1 → (xs.foldl zeroStep l).length = l.length + xs.length ∧ (xs.foldl zeroStep l).getLast? = some 1 ∧ (∀ y, evalP l y = 0 → evalP (xs.foldl zeroStep l) y = 0) ∧ ∀ y ∈ xs, evalP (xs.foldl zeroStep l) y = 0 := by
  induction xs with
  | nil => intro l h; exact ⟨rfl, h, fun y e => e, by simp⟩
  | cons x xs ih =>
    intro l h
    obtain ⟨h1, h2, h3, h4⟩ := ih (zeroStep l x) (zeroStep_last l x h)
    refine ⟨by rw [List.foldl_cons, h1, zeroStep_len, List.length_cons]; omega, h2, fun y e => h3 y (by rw [zeroStep_eval, e, gm_zero]), fun y hy => ?_⟩
    rcases List.mem_cons.1 hy with e | e
    · exact h3 y (by rw [zeroStep_eval, e, x_self, zero_gm])
    · exact h4 y e
theorem zerosP_len (xs) : (zerosP xs).length = xs.length + 1 := by rw [zerosP, (zeros_fold xs [1] rfl).1]; simp; omega
theorem zerosP_last (xs) : (zerosP xs).getLast? = some 1 := (zeros_fold xs [1] rfl).2.1
theorem zerosP_root (xs) {y} (h : y ∈ xs) : evalP (zerosP xs) y = 0 := (zeros_fold xs [1] rfl).2.2.2 y h
theorem quo_last (a : UInt8) : ∀ l : List UInt8, 2 ≤ l.length → l.getLast? = some 1 → (quoP a l).getLast? = some 1
  | [], h, _ => by simp at h
  | [_], h, _ => by simp at h
  | [c, b], _, h => by
    have e : b = 1 := by simpa using h
    rw [e]
    simp [quoP, evalP, gm_zero]
  | c :: b :: d :: l, _, h => by
    have ih := quo_last a (b :: d :: l) (by simp) (by simpa using h)
    have hne : quoP a (b :: d :: l) ≠ [] := by simp [quoP]
    rw [quoP, List.getLast?_cons_of_ne_nil hne, ih]
/-- The zeros of all other places. -/
def quoZ (xs : List UInt8) (x : UInt8) : List UInt8 := quoP x (zerosP xs)
theorem quoZ_len (xs x) : (quoZ xs x).length = xs.length := by rw [quoZ, quoP_len, zerosP_len]; rfl
theorem quoZ_other (xs) {x y : UInt8} (hx : x ∈ xs) (hy : y ∈ xs) (ne : y ≠ x) : evalP (quoZ xs x) y = 0 := by
  have h := eval_quo x y (zerosP xs)
  rw [zerosP_root xs hx, zerosP_root xs hy, zero_x] at h
  exact gm_eq_zero h.symm (x_ne ne)
theorem quoZ_self (xs) (hn : xs.Nodup) {x : UInt8} (hx : x ∈ xs) : evalP (quoZ xs x) x ≠ 0 := by
  intro e
  have hz := roots_zero xs (quoZ xs x) hn (by rw [quoZ_len]; exact Nat.le_refl _) fun y hy => by
    by_cases c : y = x
    · rw [c, e]
    · exact quoZ_other xs hx hy c
  have hl : 0 < xs.length := List.length_pos_of_mem hx
  have h1 := quo_last x (zerosP xs) (by rw [zerosP_len]; omega) (zerosP_last xs)
  have := hz 1 (List.mem_of_getLast? h1)
  exact absurd this (by decide)
/-- What one share adds to the tape, of one byte's place. -/
def partP (xs : List UInt8) (x rest : UInt8) : List UInt8 := (quoZ xs x).map fun d => gm (gm d (gi (gm (evalP (quoZ xs x) x) x))) rest
theorem partP_len (xs x r) : (partP xs x r).length = xs.length := by rw [partP, List.length_map, quoZ_len]
theorem partP_eval (xs x r y) : evalP (partP xs x r) y = gm (gm (gi (gm (evalP (quoZ xs x) x) x)) r) (evalP (quoZ xs x) y) := by
  rw [← eval_scale, partP, scaleP]
  congr 1
  apply List.map_congr_left
  intro d _
  rw [gm_comm d, gm_assoc, gm_comm d r, gm_assoc]
def tapeStep (xs : List UInt8) (s : UInt8) (acc : List UInt8) (p : UInt8 × UInt8) : List UInt8 := addP acc (partP xs p.1 (s ^^^ p.2))
/-- A byte's polynomial, but for its first digit. -/
def tapeP (s : UInt8) (xs ys : List UInt8) : List UInt8 := (List.zip xs ys).foldl (tapeStep xs s) (List.replicate xs.length 0)
theorem tape_fold (xs : List UInt8) (s : UInt8) (hn : xs.Nodup) (h0 : (0 : UInt8) ∉ xs) : ∀ (ps : List (UInt8 × UInt8)) (acc : List UInt8), acc.length = xs.length → (ps.map Prod.fst).Nodup → (∀ p ∈ ps, p.1 ∈ xs) →
    (ps.foldl (tapeStep xs s) acc).length = xs.length ∧ (∀ y ∈ xs, y ∉ ps.map Prod.fst → evalP (ps.foldl (tapeStep xs s) acc) y = evalP acc y) ∧
    ∀ p ∈ ps, gm p.1 (evalP (ps.foldl (tapeStep xs s) acc) p.1) = gm p.1 (evalP acc p.1) ^^^ (s ^^^ p.2)
  | [], acc, hl, _, _ => ⟨hl, fun _ _ _ => rfl, by simp⟩
  | q :: ps, acc, hl, hd, hm => by
    have hlen : (tapeStep xs s acc q).length = xs.length := by simp [tapeStep, addP, hl, partP_len]
    obtain ⟨hq, hd'⟩ := List.nodup_cons.1 (by simpa using hd : (q.1 :: ps.map Prod.fst).Nodup)
    obtain ⟨h1, h2, h3⟩ := tape_fold xs s hn h0 ps _ hlen hd' fun p hp => hm p (by simp [hp])
    have hqx := hm q (by simp)
    have hev : ∀ y, evalP (tapeStep xs s acc q) y = evalP acc y ^^^ evalP (partP xs q.1 (s ^^^ q.2)) y := fun y => eval_add _ _ _ (by rw [hl, partP_len])
    have hother : ∀ y ∈ xs, y ≠ q.1 → evalP (tapeStep xs s acc q) y = evalP acc y := fun y hy ne => by
      rw [hev, partP_eval, quoZ_other xs hqx hy ne, gm_zero, x_zero]
    refine ⟨h1, fun y hy hn' => ?_, fun p hp => ?_⟩
    · simp only [List.map_cons, List.mem_cons, not_or] at hn'
      rw [List.foldl_cons, h2 y hy hn'.2, hother y hy hn'.1]
    · rw [List.foldl_cons]
      rcases List.mem_cons.1 hp with e | e
      · rw [e, h2 q.1 hqx hq, hev, partP_eval, gm_add]
        congr 1
        have hne : gm (evalP (quoZ xs q.1) q.1) q.1 ≠ 0 := fun e => by
          have := gm_eq_zero e (quoZ_self xs hn hqx)
          exact h0 (this ▸ hqx)
        generalize evalP (quoZ xs q.1) q.1 = E at hne ⊢
        rw [gm_comm _ E, ← gm_assoc q.1 E, gm_comm q.1 E, ← gm_assoc (gm E q.1), gm_gi _ hne, one_gm]
      · rw [h3 p e, hother p.1 (hm p (by simp [e])) (fun c => hq (c ▸ List.mem_map_of_mem e))]
/-- The polynomial with the secret's byte goes through the shares. -/
theorem tapeP_at (s : UInt8) (xs ys : List UInt8) (hn : xs.Nodup) (h0 : (0 : UInt8) ∉ xs) (hl : ys.length = xs.length) (i : Nat) (hi : i < xs.length) : evalP (s :: tapeP s xs ys) xs[i] = ys[i] := by
  have hz : (List.zip xs ys).map Prod.fst = xs := List.map_fst_zip (by omega)
  obtain ⟨_, _, h3⟩ := tape_fold xs s hn h0 (List.zip xs ys) (List.replicate xs.length 0) (by simp) (by rw [hz]; exact hn) (fun p hp => (List.of_mem_zip hp).1)
  have hp : (xs[i], ys[i]) ∈ List.zip xs ys := List.mem_iff_getElem.2 ⟨i, by simp; omega, by simp⟩
  have h := h3 _ hp
  simp only at h
  rw [evalP, tapeP, h, eval_zeros _ _ (by simp), gm_zero, zero_x, x_cancel]
theorem tapeP_len (s : UInt8) (xs ys : List UInt8) (hn : xs.Nodup) (h0 : (0 : UInt8) ∉ xs) (hl : ys.length = xs.length) : (tapeP s xs ys).length = xs.length := by
  have hz : (List.zip xs ys).map Prod.fst = xs := List.map_fst_zip (by omega)
  exact (tape_fold xs s hn h0 (List.zip xs ys) (List.replicate xs.length 0) (by simp) (by rw [hz]; exact hn) (fun p hp => (List.of_mem_zip hp).1)).1
/-- There is one such polynomial only. -/
theorem tapeP_back (s : UInt8) (l xs : List UInt8) (hn : xs.Nodup) (h0 : (0 : UInt8) ∉ xs) (hl : l.length = xs.length) : tapeP s xs (xs.map (evalP (s :: l))) = l := by
  have hy : (xs.map (evalP (s :: l))).length = xs.length := by simp
  have hlen := tapeP_len s xs _ hn h0 hy
  have := poly_unique (0 :: xs) (s :: tapeP s xs (xs.map (evalP (s :: l)))) (s :: l) (List.nodup_cons.2 ⟨h0, hn⟩) (by simp [hlen]) (by simp [hlen, hl]) fun x hx => by
    rcases List.mem_cons.1 hx with e | e
    · rw [e, evalP, evalP, zero_gm, zero_gm]
    · obtain ⟨i, hi, e⟩ := List.mem_iff_getElem.1 e
      rw [← e, tapeP_at s xs _ hn h0 hy i hi, List.getElem_map]
  exact (List.cons.inj this).2
end Go.Proofs.Ytidnlginjjgmjaa
