/-
  Change, plainly: a Put and a row of Puts, stopped at any deed and crashed; a Spread, stopped, crashed and settled.
  Change, plainly: the phases of a Spread, stopped at any deed; all holders have the new epoch, or none has.
-/
import Derived.Test.YtkbjmmigjjdfpaaGreatDoorPu
namespace Go.Proofs.YtkbjmmigjjdfpaaGreatDoor
/- CwT -/
set_option linter.unusedVariables false
set_option linter.unusedSimpArgs false

/-- The disks of a Put at place i. -/
def putD (Q : Plat) (i f : Nat) (s m : ByteArray) : Nat → Plat
  | 0 => Q
  | 1 => ⟨Q.ss, [((i + f : Nat), s)]⟩
  | 2 => ⟨Q.ss.set (i + f) s, []⟩
  | 3 => ⟨Q.ss.set (i + f) s, [((i : Nat), m)]⟩
  | _ => ⟨(Q.ss.set (i + f) s).set i m, []⟩
theorem one_step {T : List ByteArray} {i : Nat} {t : ByteArray} (hT : checkB ⟨T, []⟩ = true) (hi : i < T.length) (ht : t.size ≤ 128) : writeP (i : Int) t ⟨T, []⟩ = (⟨T, [((i : Int), t)]⟩, 0) ∧ checkB ⟨T, [((i : Int), t)]⟩ = true ∧ syncP ⟨T, [((i : Int), t)]⟩ = (⟨T.set i t, []⟩, 0) ∧ checkB ⟨T.set i t, []⟩ = true := by
  have hh : hasB T.length (i : Int) = true := has_nat hi
  have hk : checkB ⟨T, [((i : Int), t)]⟩ = true := by
    have h' := hT
    simp only [checkB, Bool.and_eq_true, decide_eq_true_eq, List.all_nil] at h' ⊢
    simp only [List.all_cons, List.all_nil, putB, hh, Bool.and_true, decide_eq_true_eq, List.length_cons, List.length_nil]
    exact ⟨⟨⟨h'.1.1.1, by omega⟩, h'.1.2⟩, ht⟩
  refine ⟨?_, hk, ?_, set_check (P := ⟨T, []⟩) hT rfl i ht⟩
  · simp [writeP, hT, hh]; omega
  · simp [syncP, settleP, hk, fallTo, fallS]
theorem putd_steps {Q : Plat} (hk : checkB Q = true) (hc : Q.cs = []) {i : Nat} (hi : i + 2 < Q.ss.length) (hg : (getP Q (i : Int)).2.2 = 0) {s : ByteArray} (hs : s.size ≤ 128) {f : Nat} (hf : farN (readS Q (i : Int)) = (f : Int)) (hf2 : f ≤ 2) {d : Nat} (hd : d ≤ 4) :
    putP Q (i : Int) s (d : Int) = (putD Q i f s (markN (readS Q (i : Int))) d, decide (d = 4), 0) ∧ checkB (putD Q i f s (markN (readS Q (i : Int))) d) = true := by
  have hm : (markN (readS Q (i : Int))).size ≤ 128 := by unfold markN; split <;> decide
  have r0 : readP Q (i : Int) = (readS Q (i : Int), 0) := readP_in hk (by omega)
  obtain ⟨T, cs⟩ := Q
  simp only at hc
  subst hc
  simp only at hi
  obtain ⟨w1, c1, y1, c2⟩ := one_step (i := i + f) hk (by omega) hs
  obtain ⟨w2, c3, y2, c4⟩ := one_step (i := i) c2 (by simp; omega) hm
  unfold putP doP
  rw [if_neg (by rw [hg]; simp), r0]
  have e4 : (deedsL (i : Int) s (readS ⟨T, []⟩ (i : Int))).length = 4 := rfl
  have ed : mostN (d : Int) 4 = d := by unfold mostN; rw [if_neg (by omega)]; simp
  rw [e4, ed, deedsL, hf, show (i : Int) + (f : Int) = ((i + f : Nat) : Int) by omega]
  match d, hd with
  | 0, _ => exact ⟨by simp [runL, putD], hk⟩
  | 1, _ => exact ⟨by simp only [List.take_succ_cons, List.take_zero, runL, w1, putD]; simp, c1⟩
  | 2, _ => exact ⟨by simp only [List.take_succ_cons, List.take_zero, runL, w1, y1, putD]; simp, c2⟩
  | 3, _ => exact ⟨by simp only [List.take_succ_cons, List.take_zero, runL, w1, y1, w2, putD]; simp, c3⟩
  | 4, _ => exact ⟨by simp only [List.take_succ_cons, List.take_zero, runL, w1, y1, w2, y2, putD]; simp, c4⟩
theorem putd_crash {Q : Plat} (hk : checkB Q = true) (hc : Q.cs = []) {i : Nat} (hi : i + 2 < Q.ss.length) (hg : (getP Q (i : Int)).2.2 = 0) (ho1 : (readS Q (i : Int)).size ≤ 1) {s : ByteArray} (hs : s.size ≤ 128) {f : Nat} (hf : farN (readS Q (i : Int)) = (f : Int)) (hf1 : 1 ≤ f) (hf2 : f ≤ 2) {d : Nat} (hd : d ≤ 4) (fates : List Int) :
    ∃ R, crashP fates (putD Q i f s (markN (readS Q (i : Int))) d) = (R, 0) ∧ R.cs = [] ∧ checkB R = true ∧ R.ss.length = Q.ss.length ∧ (∀ k : Nat, k ≠ i → k ≠ i + f → readS R (k : Int) = readS Q (k : Int)) ∧
      ((readS R (i : Int) = readS Q (i : Int) ∧ d ≠ 4) ∨ (readS R (i : Int) = markN (readS Q (i : Int)) ∧ readS R ((i + f : Nat) : Int) = s)) := by
  obtain ⟨ps, pc⟩ := putd_steps hk hc hi hg hs hf hf2 hd
  obtain ⟨R, r1, r2, r3, r4, r5, r6⟩ := crash_is pc fates
  have hm1 : (markN (readS Q (i : Int))).size = 1 := by unfold markN; split <;> rfl
  have r7 : ∀ k : Nat, readS R (k : Int) = R.ss.getD k none0 := readS_clean r3
  have q7 : ∀ k : Nat, readS Q (k : Int) = Q.ss.getD k none0 := readS_clean hc
  have q70 := q7 i
  generalize readS Q (i : Int) = old at *
  generalize hmm : markN old = m at *
  obtain ⟨T, cs⟩ := Q
  simp only at hc hi q7 q70
  subst hc
  refine ⟨R, r1, r3, r5, ?_, ?_, ?_⟩
  · rw [r4]
    match d, hd with
    | 0, _ => rfl
    | 1, _ => rfl
    | 2, _ => simp [putD]
    | 3, _ => simp [putD]
    | 4, _ => simp [putD]
  · intro k hi0 hif
    rw [q7]
    match d, hd with
    | 0, _ => exact r6 k (by simp [putD])
    | 1, _ => exact r6 k (by simp [putD]; omega)
    | 2, _ =>
      rw [r6 k (by simp [putD])]
      simp only [putD]
      rw [getD_setd, if_neg (by omega)]
    | 3, _ =>
      rw [r6 k (by simp [putD]; omega)]
      simp only [putD]
      rw [getD_setd, if_neg (by omega)]
    | 4, _ =>
      rw [r6 k (by simp [putD])]
      simp only [putD]
      rw [getD_setd, if_neg (by omega), getD_setd, if_neg (by omega)]
  · match d, hd with
    | 0, _ => exact .inl ⟨(r6 i (by simp [putD])).trans q70.symm, by omega⟩
    | 1, _ => exact .inl ⟨(r6 i (by simp [putD]; omega)).trans q70.symm, by omega⟩
    | 2, _ =>
      refine .inl ⟨(r6 i (by simp [putD])).trans ?_, by omega⟩
      simp only [putD]
      rw [getD_setd, if_neg (by omega), q70]
    | 3, _ =>
      have e : R.ss = fallS (T.set (i + f) s) ((i : Nat), m) (fates.getD 0 0) := by rw [r2]; rfl
      have ef : readS R ((i + f : Nat) : Int) = s := by
        rw [r7, e, fallS_out (by simp; omega), getD_setd, if_pos ⟨rfl, by omega⟩]
      have eo : (T.set (i + f) s).getD i none0 = old := by rw [getD_setd, if_neg (by omega), q70]
      have e0 : readS R (i : Int) = (fallS (T.set (i + f) s) ((i : Nat), m) (fates.getD 0 0)).getD i none0 := by rw [r7 i, e]
      unfold fallS at e0
      split at e0
      · exact .inl ⟨e0.trans eo, by omega⟩
      · split at e0
        · refine .inr ⟨?_, ef⟩
          rw [e0, getD_setd, if_pos ⟨by simp, by simp; omega⟩]
        · have e1 : readS R (i : Int) = beginS old m (fates.getD 0 0 - 2).toNat := by
            rw [e0, getD_setd, if_pos ⟨by simp, by simp; omega⟩]
            congr 1
          by_cases hk : (fates.getD 0 0 - 2).toNat = 0
          · left
            refine ⟨?_, by omega⟩
            rw [e1, hk, beginS, List.take_zero, List.drop_zero, List.nil_append, bs_of]
          · right
            refine ⟨?_, ef⟩
            rw [e1, beginS, List.take_of_length_le (by rw [len_data]; omega), List.drop_of_length_le (by rw [len_data]; omega), List.append_nil, bs_of]
    | 4, _ =>
      right
      constructor
      · rw [r6 i (by simp [putD])]
        simp only [putD]
        rw [getD_setd, if_pos ⟨rfl, by simp; omega⟩]
      · rw [r6 (i + f) (by simp [putD])]
        simp only [putD]
        rw [getD_setd, if_neg (by omega), getD_setd, if_pos ⟨rfl, by omega⟩]
theorem mark_is {Q : Plat} {i : Nat} (hk : checkB Q = true) (hi : i < Q.ss.length) (hg : (getP Q (i : Int)).2.2 = 0) : readS Q (i : Int) = none0 ∨ readS Q (i : Int) = mark0 ∨ readS Q (i : Int) = mark1 := by
  unfold getP at hg
  rw [readP_in hk hi] at hg
  by_cases h : readS Q (i : Int) = none0
  · exact .inl h
  · right
    rw [if_neg (by simp [h])] at hg
    unfold bodyO at hg
    by_cases a : readS Q (i : Int) = mark0
    · exact .inl a
    · by_cases b : readS Q (i : Int) = mark1
      · exact .inr b
      · rw [if_neg a, if_neg b] at hg
        simp at hg
/-- A Put at place i, stopped at deed d; and what a crash leaves of it. -/
theorem put_any_crash {Q : Plat} (hk : checkB Q = true) (hc : Q.cs = []) {i : Nat} (hi : i + 2 < Q.ss.length) (hg : (getP Q (i : Int)).2.2 = 0) {s : ByteArray} (hs : s.size ≤ 128) {d : Nat} (hd : d ≤ 4) :
    ∃ X, putP Q (i : Int) s (d : Int) = (X, decide (d = 4), 0) ∧ ∀ fates, ∃ R, crashP fates X = (R, 0) ∧ R.cs = [] ∧ checkB R = true ∧ R.ss.length = Q.ss.length ∧ (getP R (i : Int) = getP Q (i : Int) ∨ getP R (i : Int) = (s, true, 0)) ∧ ∀ j : Nat, (j + 2 < i ∨ i + 2 < j) → getP R (j : Int) = getP Q (j : Int) := by
  obtain ⟨f, hf, hf2⟩ := far_nat (readS Q (i : Int))
  have hmk := mark_is hk (by omega) hg
  have ho1 : (readS Q (i : Int)).size ≤ 1 := by rcases hmk with e | e | e <;> rw [e] <;> decide
  refine ⟨_, (putd_steps hk hc hi hg hs hf2 (by omega) hd).1, fun fates => ?_⟩
  obtain ⟨R, r1, r2, r3, r4, r5, r6⟩ := putd_crash hk hc hi hg ho1 hs hf2 (by omega) (by omega) hd fates
  refine ⟨R, r1, r2, r3, r4, ?_, fun j hj => getP_same j fun k k1 k2 => readP_same hk r3 r4 k fun _ => r5 k (by omega) (by omega)⟩
  obtain ⟨hb, hn⟩ := mark_far (readS Q (i : Int))
  rcases r6 with ⟨e0, _⟩ | ⟨e0, e1⟩
  · left
    have p0 : readP R (i : Int) = (readS Q (i : Int), 0) := by rw [readP_in r3 (by omega), e0]
    have q0 : readP Q (i : Int) = (readS Q (i : Int), 0) := readP_in hk (by omega)
    have near : ∀ g : Nat, g ≠ 0 → g ≠ f → readP R ((i : Int) + (g : Int)) = readP Q ((i : Int) + (g : Int)) := fun g g0 gf => by
      rw [show (i : Int) + (g : Int) = ((i + g : Nat) : Int) by omega]
      exact readP_same hk r3 r4 _ fun _ => r5 _ (by omega) (by omega)
    unfold getP
    rw [p0, q0]
    rcases hmk with e | e | e
    · rw [if_pos (.inr e), if_pos (.inr e)]
    · have : f = 2 := by rw [e, farN, if_pos rfl] at hf2; omega
      have n1 := near 1 (by omega) (by omega)
      simp only [e, body0, mark_ne, ne_eq, not_true_eq_false, or_self, if_false]
      rw [show (i : Int) + 1 = (i : Int) + ((1 : Nat) : Int) by omega, n1]
    · have : f = 1 := by rw [e, farN, if_neg mark_ne.2.2] at hf2; omega
      have n1 := near 2 (by omega) (by omega)
      simp only [e, body1, mark_ne, ne_eq, not_true_eq_false, or_self, if_false]
      rw [show (i : Int) + 2 = (i : Int) + ((2 : Nat) : Int) by omega, n1]
  · right
    have p0 : readP R (i : Int) = (markN (readS Q (i : Int)), 0) := by rw [readP_in r3 (by omega), e0]
    have p1 : readP R ((i + f : Nat) : Int) = (s, 0) := by rw [readP_in r3 (by omega), e1]
    unfold getP
    rw [p0, if_neg (by simp [hn])]
    simp only [hb, hf2]
    rw [show (i : Int) + (f : Int) = ((i + f : Nat) : Int) by omega, p1]
    rfl

/-- A disk where nothing waits: what its two twins tell. -/
structure Hs (P : Plat) (a b : ByteArray × Bool) : Prop where
  chk : checkB P = true
  cs : P.cs = []
  len : 5 < P.ss.length
  g0 : getP P 0 = (a.1, a.2, 0)
  g3 : getP P 3 = (b.1, b.2, 0)
theorem hs_pl {A B : T3} (hA : A.ok) (hB : B.ok) : Hs (pl A B) A.get B.get :=
  ⟨pl_check hA hB, rfl, by simp [pl, T3.l], get_pl0 hA hB, get_pl3 hA hB⟩
theorem Hs.crash {P : Plat} {a b : ByteArray × Bool} (h : Hs P a b) (fates : List Int) : crashP fates P = (P, 0) := by
  obtain ⟨ss, cs⟩ := P
  have hc := h.cs
  simp only at hc
  subst hc
  simp [crashP, settleP, h.chk, fallTo]
/-- What a whole Put makes of what the twins tell. -/
def aplS (p : (ByteArray × Bool) × (ByteArray × Bool)) (c : Int × ByteArray) : (ByteArray × Bool) × (ByteArray × Bool) := if c.1 = 0 then ((c.2, true), p.2) else (p.1, (c.2, true))
theorem hs_put {P : Plat} {a b : ByteArray × Bool} (h : Hs P a b) {c : Int × ByteArray} (hc : c.1 = 0 ∨ c.1 = 3) (hz : c.2.size ≤ 128) {d : Nat} (hd : d ≤ 4) :
    ∃ X, putP P c.1 c.2 (d : Int) = (X, decide (d = 4), 0) ∧ (d = 4 → Hs X (aplS (a, b) c).1 (aplS (a, b) c).2) ∧ ∀ fates, ∃ R, crashP fates X = (R, 0) ∧ (Hs R a b ∨ Hs R (aplS (a, b) c).1 (aplS (a, b) c).2) := by
  have hl := h.len
  obtain ⟨ci, s⟩ := c
  simp only at hc hz ⊢
  rcases hc with rfl | rfl
  · have e3 : (getP P ((0 : Nat) : Int)).2.2 = 0 := congrArg (fun p => p.2.2) h.g0
    obtain ⟨X, x1, x2⟩ := put_any_crash h.chk h.cs (i := 0) (by omega) e3 hz hd
    refine ⟨X, x1, fun h4 => ?_, fun fates => ?_⟩
    · subst h4
      obtain ⟨_, k1, k2, k3, k4, _⟩ := put_is (i := 0) x1
      have g := get_put (i := 0) x1
      exact ⟨k2, k1, by omega, by simpa [aplS] using g.1, (g.2 3 (.inr (by omega))).trans h.g3⟩
    · obtain ⟨R, r1, r2, r3, r4, r5, r6⟩ := x2 fates
      refine ⟨R, r1, ?_⟩
      have k3 := (r6 3 (.inr (by omega))).trans h.g3
      rcases r5 with e | e
      · exact .inl ⟨r3, r2, by omega, e.trans h.g0, k3⟩
      · exact .inr ⟨r3, r2, by omega, by simpa [aplS] using e, k3⟩
  · have e3 : (getP P ((3 : Nat) : Int)).2.2 = 0 := congrArg (fun p => p.2.2) h.g3
    obtain ⟨X, x1, x2⟩ := put_any_crash h.chk h.cs (i := 3) (by omega) e3 hz hd
    refine ⟨X, x1, fun h4 => ?_, fun fates => ?_⟩
    · subst h4
      obtain ⟨_, k1, k2, k3, k4, _⟩ := put_is (i := 3) x1
      have g := get_put (i := 3) x1
      exact ⟨k2, k1, by omega, (g.2 0 (.inl (by omega))).trans h.g0, by simpa [aplS] using g.1⟩
    · obtain ⟨R, r1, r2, r3, r4, r5, r6⟩ := x2 fates
      refine ⟨R, r1, ?_⟩
      have k3 := (r6 0 (.inl (by omega))).trans h.g0
      rcases r5 with e | e
      · exact .inl ⟨r3, r2, by omega, k3, e.trans h.g3⟩
      · exact .inr ⟨r3, r2, by omega, k3, by simpa [aplS] using e⟩
/-- A row of Puts, stopped at deed d; and what a crash leaves of it. -/
theorem hs_row : ∀ (l : List (Int × ByteArray)) (P : Plat) (a b : ByteArray × Bool), Hs P a b → (∀ c ∈ l, (c.1 = 0 ∨ c.1 = 3) ∧ c.2.size ≤ 128) → ∀ d : Nat, d ≤ 4 * l.length →
    ∃ X, rowL l P (d : Int) = (X, if d = 4 * l.length then 0 else 230) ∧ (d = 4 * l.length → Hs X (l.foldl aplS (a, b)).1 (l.foldl aplS (a, b)).2) ∧
      ∀ fates, ∃ R, crashP fates X = (R, 0) ∧ ∃ k, k ≤ l.length ∧ Hs R ((l.take k).foldl aplS (a, b)).1 ((l.take k).foldl aplS (a, b)).2
  | [], P, a, b, h, _, d, hd => by
    have : d = 0 := by simpa using hd
    subst this
    exact ⟨P, rfl, fun _ => h, fun fates => ⟨P, h.crash fates, 0, Nat.le_refl _, h⟩⟩
  | c :: l, P, a, b, h, hl, d, hd => by
    obtain ⟨hc, hz⟩ := hl c (by simp)
    rw [List.length_cons] at hd ⊢
    by_cases h4 : 4 ≤ d
    · obtain ⟨X, x1, x2, _⟩ := hs_put h hc hz (Nat.le_refl 4)
      obtain ⟨Y, y1, y2, y3⟩ := hs_row l X _ _ (x2 rfl) (fun c hc => hl c (List.mem_cons_of_mem _ hc)) (d - 4) (by omega)
      refine ⟨Y, ?_, fun e => y2 (by omega), fun fates => ?_⟩
      · obtain ⟨ci, s⟩ := c
        rw [rowL, show min (d : Int) 4 = ((4 : Nat) : Int) by omega]
        simp only at x1
        rw [x1]
        simp only [ne_eq, not_true_eq_false, if_false, decide_true, if_true]
        rw [show (d : Int) - 4 = ((d - 4 : Nat) : Int) by omega, y1]
        congr 1
        by_cases e : d = 4 * (l.length + 1)
        · rw [if_pos e, if_pos (by omega)]
        · rw [if_neg e, if_neg (by omega)]
      · obtain ⟨R, r1, k, k1, k2⟩ := y3 fates
        exact ⟨R, r1, k + 1, by omega, k2⟩
    · obtain ⟨X, x1, _, x3⟩ := hs_put h hc hz (d := d) (by omega)
      refine ⟨X, ?_, fun e => by omega, fun fates => ?_⟩
      · obtain ⟨ci, s⟩ := c
        rw [rowL, show min (d : Int) 4 = (d : Int) by omega]
        simp only at x1
        rw [x1]
        have hd4 : decide (d = 4) = false := decide_eq_false (by omega)
        simp only [ne_eq, not_true_eq_false, if_false, hd4, Bool.false_eq_true]
        rw [if_neg (show ¬ d = 4 * (l.length + 1) by omega)]
      · obtain ⟨R, r1, r2⟩ := x3 fates
        rcases r2 with r2 | r2
        · exact ⟨R, r1, 0, by omega, r2⟩
        · exact ⟨R, r1, 1, by omega, r2⟩

/-- What a deal gives a place, in an epoch. -/
structure Gift where
  e : Int
  x : Int
  b : ByteArray
  salt : ByteArray
structure Gift.ok (g : Gift) : Prop where
  e0 : 1 ≤ g.e
  e1 : g.e ≤ 1000000
  fit : fitX g.x g.b g.salt
def Gift.next (g : Gift) : ByteArray := nextB g.e g.x g.b g.salt
def Gift.now (g : Gift) (cred : ByteArray) : ByteArray := nowB (hold g.e 0 g.x g.b g.salt cred)
theorem Gift.next_le {g : Gift} (h : g.ok) : g.next.size ≤ 128 := next_size h.e0 h.e1 h.fit.2.2.1 h.fit.2.2.2
theorem Gift.good {g : Gift} (h : g.ok) {cred : ByteArray} (hc : cred.size = 32) : (hold g.e 0 g.x g.b g.salt cred).good := hold_good ⟨h.e0, h.e1⟩ ⟨by omega, by omega⟩ h.fit hc
/-- What is read of now: the epoch ahead. -/
structure Was (t : ByteArray) (e : Int) (cred : ByteArray) : Prop where
  rd : (readNowL t).2 = true
  ep : (readNowL t).1.epoch = e
  cr : (readNowL t).1.cred = cred
theorem Was.size {t : ByteArray} {e : Int} {cred : ByteArray} (h : Was t e cred) : cred.size = 32 := by rw [← h.cr]; exact now_cred h.rd
/-- The disks of a Spread: of the epoch ahead; prepared; committed. -/
def OldD (g : Gift) (cred : ByteArray) (P : Plat) : Prop := ∃ t b, Hs P (t, true) b ∧ b.1 = none0 ∧ Was t (g.e - 1) cred
def PrepD (g : Gift) (cred : ByteArray) (P : Plat) : Prop := ∃ t, Hs P (t, true) (g.next, true) ∧ Was t (g.e - 1) cred
def CommD (g : Gift) (cred : ByteArray) (P : Plat) : Prop := ∃ b, Hs P (g.now cred, true) (b, true) ∧ cred.size = 32 ∧ (b = none0 ∨ b = g.next)
/-- Committed whole: nothing is prepared any more. -/
def CommZ (g : Gift) (cred : ByteArray) (P : Plat) : Prop := Hs P (g.now cred, true) (none0, true) ∧ cred.size = 32
theorem CommZ.d {g : Gift} {cred : ByteArray} {P : Plat} (h : CommZ g cred P) : CommD g cred P := ⟨none0, h.1, h.2, .inl rfl⟩
theorem pair_is {α β : Type} {p : α × β} {b : β} (h : p.2 = b) : p = (p.1, b) := by
  obtain ⟨a, c⟩ := p
  simp only at h
  rw [h]
theorem hs_get {P : Plat} {t : ByteArray} {b : ByteArray × Bool} {h0 h1 : Hd} (h : Hs P (t, true) b) (hr : readNowL t = (h0, true)) (hb : b.2 = false ∧ h1 = h0 ∨ b.2 = true ∧ readNextL h0 b.1 = (h1, true)) : getH P = (h1, 0) := by
  unfold getH
  rw [h.g0, h.g3]
  simp only [hr, ne_eq, not_true_eq_false, if_false, Bool.true_eq_false]
  rcases hb with ⟨e1, rfl⟩ | ⟨e1, hb⟩
  · rw [if_pos e1]
  · simp only [hb, e1, Bool.true_eq_false, if_false]
theorem old_get {g : Gift} {cred : ByteArray} {P : Plat} (h : OldD g cred P) : (getH P).2 = 0 ∧ (getH P).1.epoch = g.e - 1 := by
  obtain ⟨t, b, h1, h2, h3⟩ := h
  have hrd := h3.rd
  have hep := h3.ep
  obtain ⟨h0, hh0⟩ : ∃ h0, readNowL t = (h0, true) := ⟨(readNowL t).1, pair_is hrd⟩
  rw [hh0] at hep
  dsimp only at hep
  have hg : getH P = (h0, 0) := by
    by_cases hf : b.2 = false
    · exact hs_get h1 hh0 (.inl ⟨hf, rfl⟩)
    · exact hs_get h1 hh0 (.inr ⟨by simpa using hf, by rw [h2]; exact none_next _⟩)
  rw [hg]
  exact ⟨rfl, hep⟩
theorem prep_get {g : Gift} (hg : g.ok) {cred : ByteArray} {P : Plat} (h : PrepD g cred P) : ∃ h0 : Hd, getH P = ({ h0 with next := g.e, nx := g.x, nb := g.b, nsalt := g.salt }, 0) ∧ h0.epoch = g.e - 1 ∧ h0.cred = cred ∧ cred.size = 32 := by
  obtain ⟨t, h1, h3⟩ := h
  have hrd := h3.rd
  have hep := h3.ep
  have hcr := h3.cr
  have hsz := h3.size
  obtain ⟨h0, hh0⟩ : ∃ h0, readNowL t = (h0, true) := ⟨(readNowL t).1, pair_is hrd⟩
  rw [hh0] at hep hcr
  dsimp only at hep hcr
  have hn := read_next h0 hg.e0 hg.e1 hg.fit.1 hg.fit.2.1 hg.fit.2.2.1 hg.fit.2.2.2
  exact ⟨h0, hs_get h1 hh0 (.inr ⟨rfl, hn⟩), hep, hcr, hsz⟩
theorem comm_read {g : Gift} (hg : g.ok) {cred : ByteArray} (hc : cred.size = 32) : readNowL (g.now cred) = (hold g.e 0 g.x g.b g.salt cred, true) := read_now (Gift.good hg hc)
theorem comm_get {g : Gift} (hg : g.ok) {cred : ByteArray} {P : Plat} (h : CommD g cred P) : ∃ h0 : Hd, getH P = (h0, 0) ∧ h0.epoch = g.e ∧ h0.x = g.x ∧ h0.b = g.b ∧ h0.salt = g.salt ∧ h0.cred = cred ∧ h0.tries = 0 := by
  obtain ⟨b, h1, hc, h2⟩ := h
  have hr := comm_read hg hc
  have hn := read_next (hold g.e 0 g.x g.b g.salt cred) hg.e0 hg.e1 hg.fit.1 hg.fit.2.1 hg.fit.2.2.1 hg.fit.2.2.2
  rcases h2 with rfl | rfl
  · exact ⟨hold g.e 0 g.x g.b g.salt cred, hs_get h1 hr (.inr ⟨rfl, none_next _⟩), rfl, rfl, rfl, rfl, rfl, rfl⟩
  · exact ⟨{ hold g.e 0 g.x g.b g.salt cred with next := g.e, nx := g.x, nb := g.b, nsalt := g.salt }, hs_get h1 hr (.inr ⟨rfl, hn⟩), rfl, rfl, rfl, rfl, rfl, rfl⟩
/-- A Prepare, stopped and crashed. -/
theorem prep_step {g : Gift} (hg : g.ok) {cred : ByteArray} {P : Plat} (h : OldD g cred P) {d : Nat} (hd : d ≤ 4) :
    ∃ X, prepH P g.e g.x g.b g.salt (d : Int) = (X, if d = 4 then 0 else 230) ∧ (d = 4 → PrepD g cred X) ∧ ∀ fates, ∃ R, crashP fates X = (R, 0) ∧ (OldD g cred R ∨ PrepD g cred R) := by
  obtain ⟨e1, e2⟩ := old_get h
  obtain ⟨t, b, h1, h2, h3⟩ := h
  obtain ⟨X, x1, x2, x3⟩ := hs_row [(3, g.next)] P _ _ h1 (fun c hc => by rw [List.mem_singleton.1 hc]; exact ⟨.inr rfl, Gift.next_le hg⟩) d (by simpa using hd)
  have f := hg.fit
  have g0 := hg.e0
  have g1 := hg.e1
  refine ⟨X, ?_, fun h4 => ⟨t, x2 (by simpa using h4), h3⟩, fun fates => ?_⟩
  · unfold prepH
    rw [if_neg (by rw [e1]; simp), if_neg (by rintro (h | h | h | h) <;> have := f.1 <;> have := f.2.1 <;> have := f.2.2.1 <;> have := f.2.2.2 <;> omega), if_neg (by rw [e2]; omega)]
    unfold rowP
    rw [show rowN (d : Int) [((3 : Int), nextB g.e g.x g.b g.salt)].length = (d : Int) by unfold rowN; rw [if_neg (by simp; omega)]]
    exact x1
  · obtain ⟨R, r1, k, k1, k2⟩ := x3 fates
    refine ⟨R, r1, ?_⟩
    have : k = 0 ∨ k = 1 := by simp at k1; omega
    rcases this with rfl | rfl
    · exact .inl ⟨t, b, k2, h2, h3⟩
    · exact .inr ⟨t, k2, h3⟩
theorem comm_row {g : Gift} (hg : g.ok) {cred : ByteArray} {P : Plat} {h0 : Hd} (e1 : getH P = ({ h0 with next := g.e, nx := g.x, nb := g.b, nsalt := g.salt }, 0)) (e2 : h0.epoch = g.e - 1) (e3 : h0.cred = cred) (d : Int) : commitH P g.e d = rowP P d [(0, g.now cred), (0, g.now cred), (3, none0), (3, none0)] := by
  have g0 := hg.e0
  unfold commitH
  rw [e1, if_neg (by simp), if_neg (by simp only; omega), if_neg (by simp only; omega)]
  simp only
  rw [e3]
  rfl
theorem row16 (P : Plat) (a b c d : Int × ByteArray) : rowP P (-1) [a, b, c, d] = rowP P ((16 : Nat) : Int) [a, b, c, d] := by
  unfold rowP
  congr 1
/-- A Commit, stopped and crashed. -/
theorem comm_step {g : Gift} (hg : g.ok) {cred : ByteArray} {P : Plat} (h : PrepD g cred P) {d : Nat} (hd : d ≤ 16) :
    ∃ X, commitH P g.e (d : Int) = (X, if d = 16 then 0 else 230) ∧ (d = 16 → CommZ g cred X) ∧ ∀ fates, ∃ R, crashP fates X = (R, 0) ∧ (PrepD g cred R ∨ CommD g cred R) := by
  obtain ⟨h0, e1, e2, e3, e4⟩ := prep_get hg h
  obtain ⟨t, h1, h3⟩ := h
  have hz : (g.now cred).size ≤ 128 := now_size (Gift.good hg e4)
  have hn0 : none0.size ≤ 128 := by decide
  obtain ⟨X, x1, x2, x3⟩ := hs_row [(0, g.now cred), (0, g.now cred), (3, none0), (3, none0)] P _ _ h1 (fun c hc => by
    simp only [List.mem_cons, List.mem_nil_iff, or_false] at hc
    rcases hc with rfl | rfl | rfl | rfl
    · exact ⟨.inl rfl, hz⟩
    · exact ⟨.inl rfl, hz⟩
    · exact ⟨.inr rfl, hn0⟩
    · exact ⟨.inr rfl, hn0⟩) d (by simpa using hd)
  have g0 := hg.e0
  refine ⟨X, ?_, fun h4 => ⟨x2 (by simpa using h4), e4⟩, fun fates => ?_⟩
  · unfold commitH
    rw [e1, if_neg (by simp), if_neg (by simp only; omega), if_neg (by simp only; omega)]
    simp only
    unfold rowP
    rw [e3]
    rw [show rowN (d : Int) _ = (d : Int) by unfold rowN; rw [if_neg (by simp; omega)]]
    exact x1
  · obtain ⟨R, r1, k, k1, k2⟩ := x3 fates
    refine ⟨R, r1, ?_⟩
    have : k = 0 ∨ k = 1 ∨ k = 2 ∨ k = 3 ∨ k = 4 := by simp at k1; omega
    rcases this with rfl | rfl | rfl | rfl | rfl
    · exact .inl ⟨t, k2, h3⟩
    · exact .inr ⟨_, k2, e4, .inr rfl⟩
    · exact .inr ⟨_, k2, e4, .inr rfl⟩
    · exact .inr ⟨_, k2, e4, .inl rfl⟩
    · exact .inr ⟨_, k2, e4, .inl rfl⟩
/-- A whole Commit on what a crash left. -/
theorem comm_whole {g : Gift} (hg : g.ok) {cred : ByteArray} {P : Plat} (h : PrepD g cred P ∨ CommD g cred P) : ∃ R, commitH P g.e (-1) = (R, 0) ∧ ∃ h0 : Hd, getH R = (h0, 0) ∧ h0.epoch = g.e ∧ h0.x = g.x ∧ h0.b = g.b ∧ h0.salt = g.salt ∧ h0.cred = cred ∧ h0.tries = 0 := by
  have g0 := hg.e0
  rcases h with h | h
  · obtain ⟨h0, e1, e2, e3, e4⟩ := prep_get hg h
    obtain ⟨t, h1, h3⟩ := h
    obtain ⟨X, x1, x2, _⟩ := comm_step hg ⟨t, h1, h3⟩ (Nat.le_refl 16)
    obtain ⟨h', k⟩ := comm_get hg (x2 rfl).d
    refine ⟨X, ?_, h', k⟩
    rw [comm_row hg e1 e2 e3, if_pos rfl] at x1
    rw [comm_row hg e1 e2 e3, row16, x1]
  · obtain ⟨h0, e1, e2, _⟩ := comm_get hg h
    obtain ⟨b, h1, h2, h3⟩ := h
    have hn0 : none0.size ≤ 128 := by decide
    obtain ⟨X, x1, x2, _⟩ := hs_row [(3, none0), (3, none0)] P _ _ h1 (fun c hc => by
      simp only [List.mem_cons, List.mem_nil_iff, or_false] at hc
      rcases hc with rfl | rfl
      · exact ⟨.inr rfl, hn0⟩
      · exact ⟨.inr rfl, hn0⟩) 8 (by simp)
    obtain ⟨h', k⟩ := comm_get (P := X) hg ⟨none0, x2 (by simp), h2, .inl rfl⟩
    refine ⟨X, ?_, h', k⟩
    unfold commitH
    rw [e1, if_neg (by simp), if_pos ⟨by omega, e2⟩]
    exact x1

/- CwT2 -/
set_option linter.unusedVariables false
set_option linter.unusedSimpArgs false

/-- A phase of a Spread behind its first k steps: the disks, the deeds that are left, an error's number. -/
def phN (f : Nat → Plat → Int → Plat × Int) (cost : Int) (l : List Plat) (d : Int) : Nat → List Plat × Int × Int
  | 0 => (l, d, 0)
  | k + 1 =>
    if (phN f cost l d k).2.2 ≠ 0 then phN f cost l d k
    else if (f k ((phN f cost l d k).1.getD k noPlat) (min (phN f cost l d k).2.1 cost)).2 = 0 then ((phN f cost l d k).1.set k (f k ((phN f cost l d k).1.getD k noPlat) (min (phN f cost l d k).2.1 cost)).1, (phN f cost l d k).2.1 - cost, 0)
    else if (f k ((phN f cost l d k).1.getD k noPlat) (min (phN f cost l d k).2.1 cost)).2 = 230 then ((phN f cost l d k).1.set k (f k ((phN f cost l d k).1.getD k noPlat) (min (phN f cost l d k).2.1 cost)).1, (phN f cost l d k).2.1, 230)
    else ((phN f cost l d k).1, (phN f cost l d k).2.1, (f k ((phN f cost l d k).1.getD k noPlat) (min (phN f cost l d k).2.1 cost)).2)
theorem plGetD {l : List Plat} {i : Nat} {P : Plat} {k : Nat} (hk : k < l.length) : (l.set k P).getD i noPlat = if k = i then P else l.getD i noPlat := by
  rw [getD_setd]
  by_cases h : k = i
  · rw [if_pos h, if_pos ⟨h, hk⟩]
  · rw [if_neg h, if_neg fun e => h e.1]
/-- What is so of the disks behind k steps of a phase. -/
def PhS (Pre Post Part : Nat → Plat → Prop) (cost d : Int) (n k : Nat) (r : List Plat × Int × Int) : Prop :=
  r.1.length = n ∧
  ((r.2.2 = 0 ∧ r.2.1 = d - cost * k ∧ 0 ≤ r.2.1 ∧ (∀ i, i < k → Post i (r.1.getD i noPlat)) ∧ ∀ i, k ≤ i → i < n → Pre i (r.1.getD i noPlat)) ∨
   (r.2.2 = 230 ∧ ∃ j, j < k ∧ d < cost * (j + 1) ∧ (∀ i, i < j → Post i (r.1.getD i noPlat)) ∧ Part j (r.1.getD j noPlat) ∧ ∀ i, j < i → i < n → Pre i (r.1.getD i noPlat)))
theorem ph_law {f : Nat → Plat → Int → Plat × Int} {cost : Int} {l : List Plat} {d : Int} {Pre Post Part : Nat → Plat → Prop} (hpre : ∀ i, i < l.length → Pre i (l.getD i noPlat))
    (hstep : ∀ i P (d : Int), i < l.length → Pre i P → 0 ≤ d → d ≤ cost → (d = cost → (f i P d).2 = 0 ∧ Post i (f i P d).1) ∧ (d ≠ cost → (f i P d).2 = 230 ∧ Part i (f i P d).1)) (hd : 0 ≤ d) (hc : 0 < cost) :
    ∀ k, k ≤ l.length → PhS Pre Post Part cost d l.length k (phN f cost l d k)
  | 0, _ => ⟨rfl, .inl ⟨rfl, by simp [phN], hd, fun i hi => by omega, fun i _ hi => hpre i hi⟩⟩
  | k + 1, hk => by
    obtain ⟨hl, h⟩ := ph_law hpre hstep hd hc k (by omega)
    rw [phN]
    generalize phN f cost l d k = r at hl h
    obtain ⟨L, d', e'⟩ := r
    simp only at hl h ⊢
    rcases h with ⟨e0, e1, e2, e3, e4⟩ | ⟨e0, j, e1, e5, e2, e3, e4⟩
    · subst e0
      rw [if_neg (by simp)]
      have hm : 0 ≤ min d' cost ∧ min d' cost ≤ cost := by omega
      obtain ⟨s1, s2⟩ := hstep k (L.getD k noPlat) (min d' cost) (by omega) (e4 k (Nat.le_refl _) (by omega)) hm.1 hm.2
      by_cases hfull : min d' cost = cost
      · obtain ⟨t1, t2⟩ := s1 hfull
        rw [if_pos t1]
        refine ⟨by simp [hl], .inl ⟨rfl, ?_, by simp only; omega, fun i hi => ?_, fun i h1 h2 => ?_⟩⟩
        · simp only
          rw [e1, Int.natCast_add, Int.mul_add]
          omega
        · simp only
          rw [plGetD (by omega)]
          by_cases hik : k = i
          · subst hik; rw [if_pos rfl]; exact t2
          · rw [if_neg hik]; exact e3 i (by omega)
        · simp only
          rw [plGetD (by omega), if_neg (by omega)]
          exact e4 i (by omega) h2
      · obtain ⟨t1, t2⟩ := s2 hfull
        rw [if_neg (by rw [t1]; decide), if_pos t1]
        have hlt : d < cost * ((k : Int) + 1) := by
          rw [Int.mul_add]
          omega
        refine ⟨by simp [hl], .inr ⟨rfl, k, by omega, hlt, fun i hi => ?_, ?_, fun i h1 h2 => ?_⟩⟩
        · simp only
          rw [plGetD (by omega), if_neg (by omega)]
          exact e3 i hi
        · simp only
          rw [plGetD (by omega), if_pos rfl]
          exact t2
        · simp only
          rw [plGetD (by omega), if_neg (by omega)]
          exact e4 i (by omega) h2
    · subst e0
      rw [if_pos (by decide)]
      exact ⟨hl, .inr ⟨rfl, j, by omega, e5, e2, e3, e4⟩⟩

def prepF (g : Nat → Gift) (i : Nat) (P : Plat) (d : Int) : Plat × Int := prepH P (g i).e (g i).x (g i).b (g i).salt d
def commF (g : Nat → Gift) (i : Nat) (P : Plat) (d : Int) : Plat × Int := commitH P (g i).e d
def allD (n : Nat) (deeds : Int) : Int := if deeds < 0 ∨ 20 * (n : Int) < deeds then 20 * (n : Int) else deeds
/-- Spread, plainly (of a right deal): the disks; is it whole; an error's number. -/
def spreadL (g : Nat → Gift) (l : List Plat) (deeds : Int) : List Plat × Bool × Int :=
  let a := phN (prepF g) 4 l (allD l.length deeds) l.length
  if a.2.2 = 230 then (a.1, false, 0) else if a.2.2 ≠ 0 then ([], false, a.2.2)
  else
    let b := phN (commF g) 16 a.1 a.2.1 l.length
    if b.2.2 = 230 then (b.1, false, 0) else if b.2.2 ≠ 0 then ([], false, b.2.2) else (b.1, true, 0)
theorem prep_F {g : Nat → Gift} {cred : ByteArray} {n : Nat} (hg : ∀ i, i < n → (g i).ok) : ∀ i P (d : Int), i < n → OldD (g i) cred P → 0 ≤ d → d ≤ 4 →
    (d = 4 → (prepF g i P d).2 = 0 ∧ PrepD (g i) cred (prepF g i P d).1) ∧ (d ≠ 4 → (prepF g i P d).2 = 230 ∧ ∀ fates, ∃ R, crashP fates (prepF g i P d).1 = (R, 0) ∧ (OldD (g i) cred R ∨ PrepD (g i) cred R)) := by
  intro i P d hi hP h0 h4
  obtain ⟨n, rfl⟩ := Int.eq_ofNat_of_zero_le h0
  obtain ⟨X, x1, x2, x3⟩ := prep_step (hg i hi) hP (d := n) (by omega)
  unfold prepF
  rw [x1]
  refine ⟨fun e => ?_, fun e => ?_⟩
  · exact ⟨by simp only; rw [if_pos (by omega)], x2 (by omega)⟩
  · exact ⟨by simp only; rw [if_neg (by omega)], x3⟩
theorem comm_F {g : Nat → Gift} {cred : ByteArray} {n : Nat} (hg : ∀ i, i < n → (g i).ok) : ∀ i P (d : Int), i < n → PrepD (g i) cred P → 0 ≤ d → d ≤ 16 →
    (d = 16 → (commF g i P d).2 = 0 ∧ CommZ (g i) cred (commF g i P d).1) ∧ (d ≠ 16 → (commF g i P d).2 = 230 ∧ ∀ fates, ∃ R, crashP fates (commF g i P d).1 = (R, 0) ∧ (PrepD (g i) cred R ∨ CommD (g i) cred R)) := by
  intro i P d hi hP h0 h4
  obtain ⟨n, rfl⟩ := Int.eq_ofNat_of_zero_le h0
  obtain ⟨X, x1, x2, x3⟩ := comm_step (hg i hi) hP (d := n) (by omega)
  unfold commF
  rw [x1]
  refine ⟨fun e => ?_, fun e => ?_⟩
  · exact ⟨by simp only; rw [if_pos (by omega)], x2 (by omega)⟩
  · exact ⟨by simp only; rw [if_neg (by omega)], x3⟩
theorem OldD.crash {g : Gift} {cred : ByteArray} {P : Plat} (h : OldD g cred P) (fates : List Int) : crashP fates P = (P, 0) := by
  obtain ⟨t, b, h1, _⟩ := h
  exact h1.crash fates
theorem PrepD.crash {g : Gift} {cred : ByteArray} {P : Plat} (h : PrepD g cred P) (fates : List Int) : crashP fates P = (P, 0) := by
  obtain ⟨t, h1, _⟩ := h
  exact h1.crash fates
theorem CommD.crash {g : Gift} {cred : ByteArray} {P : Plat} (h : CommD g cred P) (fates : List Int) : crashP fates P = (P, 0) := by
  obtain ⟨b, h1, _⟩ := h
  exact h1.crash fates
theorem all_d (n : Nat) (deeds : Int) : 0 ≤ allD n deeds ∧ allD n deeds ≤ 20 * n ∧ (deeds < 0 → allD n deeds = 20 * n) := by
  unfold allD
  split
  · exact ⟨by omega, by omega, fun _ => rfl⟩
  · exact ⟨by omega, by omega, fun h => by omega⟩
/-- A Spread, stopped at any deed: behind any crash of each disk none has the new epoch, or all are prepared at least. -/
theorem spread_crash {g : Nat → Gift} {cred : ByteArray} {l : List Plat} (hg : ∀ i, i < l.length → (g i).ok) (hl : ∀ i, i < l.length → OldD (g i) cred (l.getD i noPlat)) (deeds : Int) :
    ∃ L done, spreadL g l deeds = (L, done, 0) ∧ L.length = l.length ∧ (deeds < 0 → done = true) ∧ (done = true → ∀ i, i < l.length → CommZ (g i) cred (L.getD i noPlat)) ∧
      ∀ fates : Nat → List Int, (∀ i, i < l.length → (crashP (fates i) (L.getD i noPlat)).2 = 0) ∧
        ((∀ i, i < l.length → (getH (crashP (fates i) (L.getD i noPlat)).1).2 = 0 ∧ (getH (crashP (fates i) (L.getD i noPlat)).1).1.epoch = (g i).e - 1) ∨
         ∀ i, i < l.length → PrepD (g i) cred (crashP (fates i) (L.getD i noPlat)).1 ∨ CommD (g i) cred (crashP (fates i) (L.getD i noPlat)).1) := by
  obtain ⟨d0, d1, d2⟩ := all_d l.length deeds
  obtain ⟨a1, a2⟩ := ph_law (f := prepF g) (cost := 4) (Pre := fun i P => OldD (g i) cred P) (Post := fun i P => PrepD (g i) cred P) (Part := fun i P => ∀ fates, ∃ R, crashP fates P = (R, 0) ∧ (OldD (g i) cred R ∨ PrepD (g i) cred R)) hl (prep_F hg) d0 (by omega) l.length (Nat.le_refl _)
  unfold spreadL
  simp only
  generalize hA : phN (prepF g) 4 l (allD l.length deeds) l.length = A at *
  obtain ⟨LA, dA, eA⟩ := A
  simp only at a1 a2 ⊢
  rcases a2 with ⟨e0, e1, e2, e3, _⟩ | ⟨e0, j, e1, e5, e2, e3, e4⟩
  · subst e0
    rw [if_neg (by decide), if_neg (by simp)]
    obtain ⟨b1, b2⟩ := ph_law (f := commF g) (cost := 16) (l := LA) (d := dA) (Pre := fun i P => PrepD (g i) cred P) (Post := fun i P => CommZ (g i) cred P) (Part := fun i P => ∀ fates, ∃ R, crashP fates P = (R, 0) ∧ (PrepD (g i) cred R ∨ CommD (g i) cred R)) (fun i hi => e3 i (by omega)) (comm_F (by rw [a1]; exact hg)) e2 (by omega) l.length (by omega)
    generalize hB : phN (commF g) 16 LA dA l.length = B at *
    obtain ⟨LB, dB, eB⟩ := B
    simp only at b1 b2 ⊢
    rcases b2 with ⟨f0, f1, f2, f3, _⟩ | ⟨f0, j, f1, f5, f2, f3, f4⟩
    · subst f0
      rw [if_neg (by decide), if_neg (by simp)]
      refine ⟨LB, true, rfl, by omega, fun _ => rfl, fun _ => f3, fun fates => ⟨fun i hi => by rw [(f3 i hi).d.crash], .inr fun i hi => ?_⟩⟩
      rw [(f3 i hi).d.crash]
      exact .inr (f3 i hi).d
    · subst f0
      rw [if_pos rfl]
      refine ⟨LB, false, rfl, by omega, fun hn => ?_, (fun h => by cases h), fun fates => ⟨fun i hi => ?_, .inr fun i hi => ?_⟩⟩
      · have := d2 hn
        omega
      · rcases Nat.lt_trichotomy i j with h | h | h
        · rw [(f2 i h).d.crash]
        · subst h
          obtain ⟨R, r1, _⟩ := f3 (fates i)
          rw [r1]
        · rw [(f4 i h (by omega)).crash]
      · rcases Nat.lt_trichotomy i j with h | h | h
        · rw [(f2 i h).d.crash]; exact .inr (f2 i h).d
        · subst h
          obtain ⟨R, r1, r2⟩ := f3 (fates i)
          rw [r1]
          exact r2
        · rw [(f4 i h (by omega)).crash]; exact .inl (f4 i h (by omega))
  · subst e0
    rw [if_pos rfl]
    refine ⟨LA, false, rfl, by omega, fun hn => ?_, (fun h => by cases h), fun fates => ⟨fun i hi => ?_, .inl fun i hi => ?_⟩⟩
    · have := d2 hn
      omega
    · rcases Nat.lt_trichotomy i j with h | h | h
      · rw [(e2 i h).crash]
      · subst h
        obtain ⟨R, r1, _⟩ := e3 (fates i)
        rw [r1]
      · rw [(e4 i h (by omega)).crash]
    · rcases Nat.lt_trichotomy i j with h | h | h
      · rw [(e2 i h).crash]
        obtain ⟨h0, k1, k2, _⟩ := prep_get (hg i hi) (e2 i h)
        simp only [k1]
        exact ⟨trivial, k2⟩
      · subst h
        obtain ⟨R, r1, r2⟩ := e3 (fates i)
        rw [r1]
        rcases r2 with r2 | r2
        · exact old_get r2
        · obtain ⟨h0, k1, k2, _⟩ := prep_get (hg i hi) r2
          simp only [k1]
          exact ⟨trivial, k2⟩
      · rw [(e4 i h (by omega)).crash]; exact old_get (e4 i h (by omega))

/-- Settled behind that: all hold the new epoch, each its gift, or none does. -/
theorem settle_all {g : Nat → Gift} {cred : ByteArray} {l : List Plat} {e : Int} (he0 : 1 ≤ e) (he1 : e ≤ 1000000) (hg : ∀ i, i < l.length → (g i).ok ∧ (g i).e = e)
    (h : (∀ i, i < l.length → (getH (l.getD i noPlat)).2 = 0 ∧ (getH (l.getD i noPlat)).1.epoch = (g i).e - 1) ∨ ∀ i, i < l.length → PrepD (g i) cred (l.getD i noPlat) ∨ CommD (g i) cred (l.getD i noPlat)) :
    ∃ s, settleL l e = (s, 0) ∧ s.length = l.length ∧ ((∀ i, i < l.length → (getH (s.getD i noPlat)).2 = 0 ∧ (getH (s.getD i noPlat)).1.epoch = e - 1) ∨
      ∀ i, i < l.length → (getH (s.getD i noPlat)).2 = 0 ∧ (getH (s.getD i noPlat)).1.epoch = e ∧ (getH (s.getD i noPlat)).1.x = (g i).x ∧ (getH (s.getD i noPlat)).1.b = (g i).b) := by
  have mem : ∀ P ∈ l, ∃ i, i < l.length ∧ l.getD i noPlat = P := fun P hP => by
    obtain ⟨i, hi, e⟩ := List.mem_iff_getElem.1 hP
    exact ⟨i, hi, by rw [List.getD_eq_getElem?_getD, List.getElem?_eq_getElem hi]; exact e⟩
  have hget : ∀ i, i < l.length → (getH (l.getD i noPlat)).2 = 0 := by
    rcases h with h | h
    · exact fun i hi => (h i hi).1
    · intro i hi
      rcases h i hi with k | k
      · obtain ⟨h0, k1, _⟩ := prep_get (hg i hi).1 k
        rw [k1]
      · obtain ⟨h0, k1, _⟩ := comm_get (hg i hi).1 k
        rw [k1]
  have z1 : firstE (fun P => (getH P).2) l = 0 := firstE_zero.2 fun P hP => by
    obtain ⟨i, hi, rfl⟩ := mem P hP
    exact hget i hi
  by_cases ht : thereB e l = false
  · refine ⟨l, ?_, rfl, .inl fun i hi => ⟨hget i hi, ?_⟩⟩
    · unfold settleL
      rw [if_neg (by omega), if_neg (by simpa using z1), if_pos ht]
    · rcases h with h | h
      · rw [(h i hi).2, (hg i hi).2]
      · rcases h i hi with k | k
        · obtain ⟨h0, k1, k2, _⟩ := prep_get (hg i hi).1 k
          rw [k1]
          simp only
          rw [k2, (hg i hi).2]
        · exfalso
          obtain ⟨h0, k1, k2, _⟩ := comm_get (hg i hi).1 k
          unfold thereB at ht
          rw [List.any_eq_false] at ht
          have hm : l.getD i noPlat ∈ l := by
            rw [List.getD_eq_getElem?_getD, List.getElem?_eq_getElem hi]
            exact List.getElem_mem hi
          have := ht _ hm
          rw [k1] at this
          exact this (by simp only [decide_eq_true_eq]; rw [k2, (hg i hi).2])
  · have hall : ∀ i, i < l.length → PrepD (g i) cred (l.getD i noPlat) ∨ CommD (g i) cred (l.getD i noPlat) := by
      rcases h with h | h
      · exfalso
        refine ht ?_
        unfold thereB
        rw [List.any_eq_false]
        intro P hP
        obtain ⟨i, hi, rfl⟩ := mem P hP
        have h1 := (h i hi).2
        have h2 := (hg i hi).2
        simp only [decide_eq_true_eq]
        omega
      · exact h
    have hc : ∀ i, i < l.length → (commitH (l.getD i noPlat) e (-1)).2 = 0 ∧ (getH (commitH (l.getD i noPlat) e (-1)).1).2 = 0 ∧ (getH (commitH (l.getD i noPlat) e (-1)).1).1.epoch = e ∧ (getH (commitH (l.getD i noPlat) e (-1)).1).1.x = (g i).x ∧ (getH (commitH (l.getD i noPlat) e (-1)).1).1.b = (g i).b := fun i hi => by
      obtain ⟨R, r1, h0, k1, k2, k3, k4, _⟩ := comm_whole (hg i hi).1 (hall i hi)
      rw [(hg i hi).2] at r1 k2
      rw [r1]
      simp only
      rw [k1]
      exact ⟨trivial, rfl, k2, k3, k4⟩
    have z2 : firstE (fun P => (commitH P e (-1)).2) l = 0 := firstE_zero.2 fun P hP => by
      obtain ⟨i, hi, rfl⟩ := mem P hP
      exact (hc i hi).1
    refine ⟨l.map fun P => (commitH P e (-1)).1, ?_, by rw [List.length_map], .inr fun i hi => ?_⟩
    · unfold settleL
      rw [if_neg (by omega), if_neg (by simpa using z1), if_neg ht, if_neg (by simpa using z2)]
    · have : (l.map fun P => (commitH P e (-1)).1).getD i noPlat = (commitH (l.getD i noPlat) e (-1)).1 := by
        rw [List.getD_eq_getElem?_getD, List.getElem?_map, List.getElem?_eq_getElem hi, List.getD_eq_getElem?_getD, List.getElem?_eq_getElem hi]
        rfl
      rw [this]
      exact (hc i hi).2

end Go.Proofs.YtkbjmmigjjdfpaaGreatDoor
