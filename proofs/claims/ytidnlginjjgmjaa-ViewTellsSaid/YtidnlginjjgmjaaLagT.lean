/-
  Through given values goes one polynomial: plain facts, no program in sight.
-/
import Derived.Test.YtidnlginjjgmjaaPolyT
namespace Go.Proofs.Ytidnlginjjgmjaa
set_option linter.unusedVariables false

def scaleP (c : UInt8) (l : List UInt8) : List UInt8 := l.map (gm c)
theorem eval_scale (c : UInt8) : ∀ (l : List UInt8) (x : UInt8), evalP (scaleP c l) x = gm c (evalP l x)
  | [], _ => by simp [scaleP, evalP, gm_zero]
  | a :: l, x => by
    have ih := eval_scale c l x
    rw [show scaleP c (a :: l) = gm c a :: scaleP c l from rfl, evalP, evalP, ih, gm_add, ← gm_assoc, ← gm_assoc, gm_comm x c]
theorem eval_snoc : ∀ (l : List UInt8) (x : UInt8), evalP (l ++ [0]) x = evalP l x
  | [], x => by simp [evalP, gm_zero]
  | a :: l, x => by rw [List.cons_append, evalP, evalP, eval_snoc l x]
/-- A function that a polynomial of n digits tells. -/
def IsPoly (n : Nat) (f : UInt8 → UInt8) : Prop := ∃ l : List UInt8, l.length = n ∧ ∀ x, evalP l x = f x
theorem IsPoly.const (c : UInt8) : IsPoly 1 (fun _ => c) := ⟨[c], rfl, fun x => by simp [evalP, gm_zero]⟩
theorem IsPoly.add {n f g} (hf : IsPoly n f) (hg : IsPoly n g) : IsPoly n (fun x => f x ^^^ g x) := by
  obtain ⟨l, h1, h2⟩ := hf
  obtain ⟨m, h3, h4⟩ := hg
  exact ⟨addP l m, by simp [addP, h1, h3], fun x => by rw [eval_add l m x (by omega), h2, h4]⟩
theorem IsPoly.scale {n f} (c : UInt8) (hf : IsPoly n f) : IsPoly n (fun x => gm c (f x)) := by
  obtain ⟨l, h1, h2⟩ := hf
  exact ⟨scaleP c l, by simp [scaleP, h1], fun x => by rw [eval_scale, h2]⟩
theorem IsPoly.zero (n : Nat) : IsPoly n (fun _ => 0) := ⟨List.replicate n 0, by simp, fun x => eval_zeros _ _ (by simp)⟩
theorem IsPoly.times {n f} (o c : UInt8) (hf : IsPoly n f) : IsPoly (n + 1) (fun x => gm (f x) (gm (x ^^^ o) c)) := by
  obtain ⟨l, h1, h2⟩ := hf
  refine ⟨addP (0 :: scaleP c l) (scaleP (gm o c) l ++ [0]), by simp [addP, scaleP, h1], fun x => ?_⟩
  rw [eval_add _ _ _ (by simp [scaleP]), eval_snoc, evalP, zero_x, eval_scale, eval_scale, h2]
  show gm x (gm c (f x)) ^^^ gm (gm o c) (f x) = gm (f x) (gm (x ^^^ o) c)
  rw [add_gm, gm_add, gm_comm (f x) (gm x c), gm_comm (f x) (gm o c), gm_assoc, gm_assoc]
/-- How much one place counts at x, of all others. -/
def wP (at' x : UInt8) (os : List UInt8) (p : UInt8) : UInt8 := os.foldl (fun p o => gm p (gm (x ^^^ o) (gi (at' ^^^ o)))) p
theorem wP_poly (at' : UInt8) : ∀ (os : List UInt8) (n : Nat) (f : UInt8 → UInt8), IsPoly n f → IsPoly (n + os.length) (fun x => wP at' x os (f x))
  | [], n, f, h => h
  | o :: os, n, f, h => by
    have := wP_poly at' os (n + 1) _ (h.times o (gi (at' ^^^ o)))
    rw [List.length_cons, show n + (os.length + 1) = n + 1 + os.length by omega]
    exact this
theorem wP_zero (at' x : UInt8) : ∀ os, wP at' x os 0 = 0
  | [] => rfl
  | o :: os => by
    show wP at' x os (gm 0 _) = 0
    rw [zero_gm, wP_zero at' x os]
theorem wP_other (at' x : UInt8) : ∀ (os : List UInt8) (p : UInt8), x ∈ os → wP at' x os p = 0
  | o :: os, p, h => by
    show wP at' x os (gm p (gm (x ^^^ o) _)) = 0
    rcases List.mem_cons.1 h with e | e
    · rw [← e, x_self, zero_gm, gm_zero, wP_zero]
    · exact wP_other at' x os _ e
theorem wP_self (x : UInt8) : ∀ (os : List UInt8) (p : UInt8), x ∉ os → wP x x os p = p
  | [], p, _ => rfl
  | o :: os, p, h => by
    show wP x x os (gm p (gm (x ^^^ o) (gi (x ^^^ o)))) = p
    rw [gm_gi _ (x_ne fun e => h (by simp [e])), gm_one, wP_self x os p (fun e => h (by simp [e]))]
/-- The sum that a row of terms has. -/
def sumX (l : List UInt8) : UInt8 := l.foldl (· ^^^ ·) 0
theorem foldx (l : List UInt8) : ∀ s : UInt8, l.foldl (· ^^^ ·) s = s ^^^ l.foldl (· ^^^ ·) 0 := by
  induction l with
  | nil => intro s; simp
  | cons a l ih => intro s; rw [List.foldl_cons, List.foldl_cons, ih, ih (0 ^^^ a), zero_x, x_assoc]
theorem sumX_cons (a : UInt8) (l : List UInt8) : sumX (a :: l) = a ^^^ sumX l := by rw [sumX, List.foldl_cons, foldx, zero_x, sumX]
theorem sumX_poly {n : Nat} (fs : List (UInt8 → UInt8)) (h : ∀ f ∈ fs, IsPoly n f) : IsPoly n (fun x => sumX (fs.map (· x))) := by
  induction fs with
  | nil => exact IsPoly.zero n
  | cons f fs ih =>
    have h1 := (h f (by simp)).add (ih fun g hg => h g (by simp [hg]))
    obtain ⟨l, e1, e2⟩ := h1
    exact ⟨l, e1, fun x => by
      rw [e2]
      show f x ^^^ sumX _ = sumX (f x :: _)
      rw [sumX_cons]⟩
theorem sumX_one (l : List UInt8) (j : Nat) (v : UInt8) (hj : l[j]? = some v) (h : ∀ (i : Nat) w, l[i]? = some w → i ≠ j → w = 0) : sumX l = v := by
  induction l generalizing j with
  | nil => simp at hj
  | cons a l ih =>
    rw [sumX_cons]
    cases j with
    | zero =>
      have : sumX l = 0 := by
        have hz : ∀ w ∈ l, w = 0 := fun w hw => by
          obtain ⟨i, hi, e⟩ := List.mem_iff_getElem.1 hw
          exact h (i + 1) w (by simp [hi, e]) (by omega)
        clear ih h hj
        induction l with
        | nil => rfl
        | cons b l ih => rw [sumX_cons, ih fun w hw => hz w (by simp [hw]), hz b (by simp), x_self]
      simp at hj
      rw [this, x_zero, hj]
    | succ j =>
      rw [h 0 a (by simp) (by omega), zero_x]
      exact ih j (by simpa using hj) fun i w e ne => h (i + 1) w (by simpa using e) (by omega)
theorem getD_at (l : List UInt8) (i : Nat) (h : i < l.length) : l.getD i 0 = l[i] := by simp [List.getD, h]
/-- What a row of values at xs has at x. -/
def atP (xs ys : List UInt8) (x : UInt8) : UInt8 := sumX ((List.range xs.length).map fun i => gm (wP (xs.getD i 0) x (xs.eraseIdx i) 1) (ys.getD i 0))
theorem atP_poly (xs ys : List UInt8) (h : xs.length ≠ 0) : IsPoly xs.length (atP xs ys) := by
  have := sumX_poly (n := xs.length) ((List.range xs.length).map fun i => fun x => gm (wP (xs.getD i 0) x (xs.eraseIdx i) 1) (ys.getD i 0)) (fun f hf => by
    obtain ⟨i, hi, e⟩ := List.mem_map.1 hf
    have hi' := List.mem_range.1 hi
    have h1 := (wP_poly (xs.getD i 0) (xs.eraseIdx i) 1 _ (IsPoly.const 1)).scale (ys.getD i 0)
    rw [List.length_eraseIdx, if_pos hi', show 1 + (xs.length - 1) = xs.length by omega] at h1
    obtain ⟨l, e1, e2⟩ := h1
    exact ⟨l, e1, fun x => by
      rw [e2, ← e]
      exact gm_comm _ _⟩)
  obtain ⟨l, e1, e2⟩ := this
  exact ⟨l, e1, fun x => by
    rw [e2]
    show sumX _ = sumX _
    rw [List.map_map]
    rfl⟩
theorem nodup_erase (xs : List UInt8) (h : xs.Nodup) (i : Nat) (hi : i < xs.length) : xs.getD i 0 ∉ xs.eraseIdx i ∧ ∀ j, j < xs.length → j ≠ i → xs.getD j 0 ∈ xs.eraseIdx i := by
  constructor
  · intro hm
    rw [List.mem_eraseIdx_iff_getElem] at hm
    obtain ⟨j, hj, ne, e⟩ := hm
    rw [getD_at _ _ hi] at e
    have hp := List.pairwise_iff_getElem.1 h
    rcases Nat.lt_or_gt_of_ne ne with c | c
    · exact hp j i hj hi c e
    · exact hp i j hi hj c e.symm
  · intro j hj ne
    rw [List.mem_eraseIdx_iff_getElem]
    exact ⟨j, hj, ne, by rw [getD_at _ _ hj]⟩
theorem atP_at (xs ys : List UInt8) (hn : xs.Nodup) (j : Nat) (hj : j < xs.length) : atP xs ys (xs.getD j 0) = ys.getD j 0 := by
  refine sumX_one _ j _ ?_ ?_
  · rw [List.getElem?_map, List.getElem?_range hj]
    show some (gm (wP (xs.getD j 0) (xs.getD j 0) (xs.eraseIdx j) 1) (ys.getD j 0)) = _
    rw [wP_self _ _ _ (nodup_erase xs hn j hj).1, one_gm]
  · intro i w e ne
    have hi : i < xs.length := by
      have := (List.getElem?_eq_some_iff.1 e).1
      simpa using this
    rw [List.getElem?_map, List.getElem?_range hi] at e
    have e := Option.some.inj e
    rw [← e]
    show gm (wP (xs.getD i 0) (xs.getD j 0) (xs.eraseIdx i) 1) (ys.getD i 0) = 0
    rw [wP_other _ _ _ _ ((nodup_erase xs hn i hi).2 j hj (Ne.symm ne)), zero_gm]
/-- Of the values that a polynomial has, all its values are told. -/
theorem atP_eval (xs l : List UInt8) (hn : xs.Nodup) (hl : l.length ≤ xs.length) (h0 : xs.length ≠ 0) (x : UInt8) : atP xs (xs.map (evalP l)) x = evalP l x := by
  obtain ⟨m, e1, e2⟩ := atP_poly xs (xs.map (evalP l)) h0
  have hpad : ∀ n y, evalP (l ++ List.replicate n 0) y = evalP l y := by
    intro n y
    induction n with
    | zero => simp
    | succ n ih => rw [List.replicate_succ', ← List.append_assoc, eval_snoc, ih]
  have := poly_unique xs m (l ++ List.replicate (xs.length - l.length) 0) hn (by omega) (by simp; omega) fun y hy => by
    obtain ⟨j, hj, e⟩ := List.mem_iff_getElem.1 hy
    have h1 := atP_at xs (xs.map (evalP l)) hn j hj
    rw [getD_at _ _ hj, getD_at _ _ (by simpa using hj), List.getElem_map, e] at h1
    rw [e2, h1, hpad]
  rw [← e2, this, hpad]
end Go.Proofs.Ytidnlginjjgmjaa
