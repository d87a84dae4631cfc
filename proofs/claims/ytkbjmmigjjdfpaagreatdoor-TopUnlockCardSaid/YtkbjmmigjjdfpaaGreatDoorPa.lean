/-
  The field of 256 digits: plain facts, no program in sight. Tripling is linear, and each digit but 0 is a power of three.
  Polynomials over the field of 256 digits: plain facts, no program in sight.
  Through given values goes one polynomial: plain facts, no program in sight.
  The tape by which a secret has given shares: plain facts, no program in sight.
-/
import Derived.WalkKit
namespace Go.Proofs.YtkbjmmigjjdfpaaGreatDoor
/- Gf -/
set_option linter.unusedVariables false

/-- Twice a digit. -/
def dbl (a : Nat) : Nat := if 2 * a < 256 then 2 * a else (2 * a - 256) ^^^ 27
/-- Three times a digit. -/
def trip (a : Nat) : Nat := a ^^^ dbl a
/-- Three times, n times. -/
def trips : Nat → Nat → Nat
  | 0, a => a
  | n + 1, a => trips n (trip a)
def pows : Nat → Nat → List Nat
  | 0, _ => []
  | n + 1, a => a :: pows n (trip a)
/-- The digit of each number of triplings, from 1 on. -/
def digitT : List Nat := pows 255 1
/-- Each digit's number of triplings. -/
def numT (a : Nat) : Nat := digitT.idxOf a

theorem bytes_all {p : Nat → Bool} (h : (List.range 256).all p = true) (a : Nat) (ha : a < 256) : p a = true := List.all_eq_true.1 h a (by simpa using ha)
theorem trip_lt (a : Nat) (ha : a < 256) : trip a < 256 := by
  have : (List.range 256).all (fun a => decide (trip a < 256)) = true := by decide +kernel
  simpa using bytes_all this a ha
theorem trip_zero : trip 0 = 0 := by decide
theorem trip_xor (a b : Nat) (ha : a < 256) (hb : b < 256) : trip (a ^^^ b) = trip a ^^^ trip b := by
  have : (List.range 256).all (fun a => (List.range 256).all fun b => decide (trip (a ^^^ b) = trip a ^^^ trip b)) = true := by decide +kernel
  have h1 := bytes_all this a ha
  have h2 := bytes_all h1 b hb
  simpa using h2
theorem trips_add : ∀ (m n a : Nat), trips (m + n) a = trips n (trips m a)
  | 0, n, a => by simp [trips]
  | m + 1, n, a => by rw [Nat.succ_add, trips, trips, trips_add m n]
theorem trips_lt : ∀ (n a : Nat), a < 256 → trips n a < 256
  | 0, a, h => h
  | n + 1, a, h => trips_lt n _ (trip_lt a h)
theorem trips_zero : ∀ n, trips n 0 = 0
  | 0 => rfl
  | n + 1 => by rw [trips, trip_zero, trips_zero n]
theorem trips_xor : ∀ (n a b : Nat), a < 256 → b < 256 → trips n (a ^^^ b) = trips n a ^^^ trips n b
  | 0, _, _, _, _ => rfl
  | n + 1, a, b, ha, hb => by rw [trips, trip_xor a b ha hb, trips_xor n _ _ (trip_lt a ha) (trip_lt b hb)]; rfl
theorem trips_255 (a : Nat) (ha : a < 256) : trips 255 a = a := by
  have : (List.range 256).all (fun a => decide (trips 255 a = a)) = true := by decide +kernel
  simpa using bytes_all this a ha
theorem trips_num (a : Nat) (h0 : a ≠ 0) (ha : a < 256) : trips (numT a) 1 = a ∧ numT a < 255 := by
  have : (List.range 256).all (fun a => decide (a ≠ 0 → trips (numT a) 1 = a ∧ numT a < 255)) = true := by decide +kernel
  have h := bytes_all this a ha
  rw [decide_eq_true_eq] at h
  exact h h0
theorem num_trips (n : Nat) (hn : n < 255) : numT (trips n 1) = n := by
  have : (List.range 255).all (fun n => decide (numT (trips n 1) = n)) = true := by decide +kernel
  have h := List.all_eq_true.1 this n (by simpa using hn)
  simpa using h
theorem trips_mod (n a : Nat) (ha : a < 256) : trips (n % 255) a = trips n a := by
  have key : ∀ q r, trips (255 * q + r) a = trips r a := by
    intro q
    induction q with
    | zero => intro r; rw [Nat.mul_zero, Nat.zero_add]
    | succ q ih => intro r; rw [Nat.mul_succ, Nat.add_assoc, ih, trips_add, trips_255 a ha]
  conv => rhs; rw [← Nat.div_add_mod n 255, key]
theorem trips_ne (n a : Nat) (h0 : a ≠ 0) (ha : a < 256) : trips n a ≠ 0 := by
  intro e
  have h := congrArg (trips (255 - n % 255)) e
  rw [trips_zero, ← trips_mod n a ha, ← trips_add, show n % 255 + (255 - n % 255) = 255 by omega, trips_255 a ha] at h
  exact h0 h

/-- The product of two digits. -/
def mulG (a b : Nat) : Nat := if a = 0 then 0 else trips (numT a) b
theorem mulG_lt (a b : Nat) (hb : b < 256) : mulG a b < 256 := by
  unfold mulG
  split
  · omega
  · exact trips_lt _ _ hb
theorem mulG_zero (a : Nat) : mulG a 0 = 0 := by
  unfold mulG
  split
  · rfl
  · exact trips_zero _
theorem zero_mulG (b : Nat) : mulG 0 b = 0 := rfl
theorem mulG_pow (a b : Nat) (ha : a ≠ 0) (hb : b ≠ 0) (ha2 : a < 256) (hb2 : b < 256) : mulG a b = trips ((numT a + numT b) % 255) 1 := by
  rw [mulG, if_neg ha, trips_mod _ _ (by omega), Nat.add_comm, trips_add, (trips_num b hb hb2).1]
theorem mulG_comm (a b : Nat) (ha : a < 256) (hb : b < 256) : mulG a b = mulG b a := by
  by_cases h1 : a = 0
  · rw [h1, zero_mulG, mulG_zero]
  · by_cases h2 : b = 0
    · rw [h2, zero_mulG, mulG_zero]
    · rw [mulG_pow a b h1 h2 ha hb, mulG_pow b a h2 h1 hb ha, Nat.add_comm]
theorem mulG_xor (a b c : Nat) (hb : b < 256) (hc : c < 256) : mulG a (b ^^^ c) = mulG a b ^^^ mulG a c := by
  unfold mulG
  split
  · rfl
  · exact trips_xor _ _ _ hb hc
theorem mulG_one (b : Nat) : mulG 1 b = b := by
  rw [mulG, if_neg (by decide), show numT 1 = 0 by decide +kernel]
  rfl
theorem mulG_ne (a b : Nat) (ha : a ≠ 0) (hb : b ≠ 0) (hb2 : b < 256) : mulG a b ≠ 0 := by
  rw [mulG, if_neg ha]
  exact trips_ne _ _ hb hb2
theorem mulG_assoc (a b c : Nat) (ha : a < 256) (hb : b < 256) (hc : c < 256) : mulG (mulG a b) c = mulG a (mulG b c) := by
  by_cases h1 : a = 0
  · rw [h1, zero_mulG, zero_mulG, zero_mulG]
  · by_cases h2 : b = 0
    · rw [h2, mulG_zero, zero_mulG, mulG_zero]
    · have h3 := mulG_ne a b h1 h2 hb
      rw [show mulG (mulG a b) c = trips (numT (mulG a b)) c by rw [mulG, if_neg h3], mulG_pow a b h1 h2 ha hb, num_trips _ (Nat.mod_lt _ (by omega)), trips_mod _ _ hc,
        show mulG a (mulG b c) = trips (numT a) (mulG b c) by rw [mulG, if_neg h1], show mulG b c = trips (numT b) c by rw [mulG, if_neg h2], ← trips_add, Nat.add_comm]
/-- The digit whose product with a is 1. -/
def invG (a : Nat) : Nat := trips ((255 - numT a) % 255) 1
theorem invG_lt (a : Nat) : invG a < 256 := trips_lt _ _ (by omega)
theorem invG_mul (a : Nat) (h0 : a ≠ 0) (ha : a < 256) : mulG a (invG a) = 1 := by
  have hn := (trips_num a h0 ha).2
  rw [mulG, if_neg h0, invG, trips_mod _ _ (by omega), ← trips_add, show 255 - numT a + numT a = 255 by omega, trips_255 1 (by omega)]

/- PolyT -/
set_option linter.unusedVariables false

/-- The product, of bytes. -/
def gm (a b : UInt8) : UInt8 := UInt8.ofNat (mulG a.toNat b.toNat)
def gi (a : UInt8) : UInt8 := UInt8.ofNat (invG a.toNat)
theorem u8_ext {a b : UInt8} (h : a.toNat = b.toNat) : a = b := UInt8.toNat_inj.1 h
theorem gm_nat (a b : UInt8) : (gm a b).toNat = mulG a.toNat b.toNat := by
  have := mulG_lt a.toNat b.toNat b.toNat_lt
  rw [gm, UInt8.toNat_ofNat']
  exact Nat.mod_eq_of_lt this
theorem gi_nat (a : UInt8) : (gi a).toNat = invG a.toNat := by
  have := invG_lt a.toNat
  rw [gi, UInt8.toNat_ofNat']
  exact Nat.mod_eq_of_lt this
theorem gm_comm (a b : UInt8) : gm a b = gm b a := u8_ext (by rw [gm_nat, gm_nat, mulG_comm _ _ a.toNat_lt b.toNat_lt])
theorem gm_assoc (a b c : UInt8) : gm (gm a b) c = gm a (gm b c) := u8_ext (by rw [gm_nat, gm_nat, gm_nat, gm_nat, mulG_assoc _ _ _ a.toNat_lt b.toNat_lt c.toNat_lt])
theorem gm_add (a b c : UInt8) : gm a (b ^^^ c) = gm a b ^^^ gm a c := u8_ext (by rw [gm_nat, UInt8.toNat_xor, mulG_xor _ _ _ b.toNat_lt c.toNat_lt, UInt8.toNat_xor, gm_nat, gm_nat])
theorem add_gm (a b c : UInt8) : gm (b ^^^ c) a = gm b a ^^^ gm c a := by rw [gm_comm, gm_add, gm_comm a b, gm_comm a c]
theorem gm_zero (a : UInt8) : gm a 0 = 0 := u8_ext (by rw [gm_nat]; exact mulG_zero _)
theorem zero_gm (a : UInt8) : gm 0 a = 0 := by rw [gm_comm, gm_zero]
theorem one_gm (a : UInt8) : gm 1 a = a := u8_ext (by rw [gm_nat]; exact mulG_one _)
theorem gm_one (a : UInt8) : gm a 1 = a := by rw [gm_comm, one_gm]
theorem gm_gi (a : UInt8) (h : a ≠ 0) : gm a (gi a) = 1 := u8_ext (by
  rw [gm_nat, gi_nat, invG_mul _ (fun e => h (u8_ext e)) a.toNat_lt]
  rfl)
theorem gm_eq_zero {a b : UInt8} (h : gm a b = 0) (ha : a ≠ 0) : b = 0 := by
  have h2 : gm (gi a) (gm a b) = 0 := by rw [h, gm_zero]
  rw [← gm_assoc, gm_comm (gi a) a, gm_gi a ha, one_gm] at h2
  exact h2
theorem x_self (a : UInt8) : a ^^^ a = 0 := UInt8.xor_self
theorem x_zero (a : UInt8) : a ^^^ 0 = a := UInt8.xor_zero
theorem zero_x (a : UInt8) : 0 ^^^ a = a := UInt8.zero_xor
theorem x_comm (a b : UInt8) : a ^^^ b = b ^^^ a := UInt8.xor_comm a b
theorem x_assoc (a b c : UInt8) : a ^^^ b ^^^ c = a ^^^ (b ^^^ c) := UInt8.xor_assoc a b c
theorem x_eq {a b : UInt8} (h : a ^^^ b = 0) : a = b := UInt8.xor_eq_zero_iff.1 h
theorem x_ne {a b : UInt8} (h : a ≠ b) : a ^^^ b ≠ 0 := fun e => h (x_eq e)
theorem x_left (a b c : UInt8) : a ^^^ (b ^^^ c) = b ^^^ (a ^^^ c) := by rw [← x_assoc, x_comm a b, x_assoc]
theorem x_cancel (a b : UInt8) : a ^^^ (a ^^^ b) = b := by rw [← x_assoc, x_self, zero_x]

/-- The value of a polynomial, its lowest digit first. -/
def evalP : List UInt8 → UInt8 → UInt8
  | [], _ => 0
  | a :: l, x => a ^^^ gm x (evalP l x)
/-- A polynomial divided by x plus a. -/
def quoP (a : UInt8) : List UInt8 → List UInt8
  | [] => []
  | [_] => []
  | _ :: b :: l => evalP (b :: l) a :: quoP a (b :: l)
theorem quoP_len (a : UInt8) : ∀ l, (quoP a l).length = l.length - 1
  | [] => rfl
  | [_] => rfl
  | _ :: b :: l => by simp [quoP, quoP_len a (b :: l)]
theorem eval_quo (a x : UInt8) : ∀ l, evalP l x = evalP l a ^^^ gm (x ^^^ a) (evalP (quoP a l) x)
  | [] => by simp [evalP, quoP, gm_zero]
  | [c] => by simp [evalP, quoP, gm_zero]
  | c :: b :: l => by
    have ih := eval_quo a x (b :: l)
    show c ^^^ gm x (evalP (b :: l) x) = (c ^^^ gm a (evalP (b :: l) a)) ^^^ gm (x ^^^ a) (evalP (b :: l) a ^^^ gm x (evalP (quoP a (b :: l)) x))
    generalize evalP (b :: l) = P at ih ⊢
    generalize evalP (quoP a (b :: l)) x = Q at ih ⊢
    have h1 : gm x (P x) = gm x (P a) ^^^ gm (x ^^^ a) (gm x Q) := by rw [ih, gm_add, ← gm_assoc, gm_comm x (x ^^^ a), gm_assoc]
    have h2 : gm (x ^^^ a) (P a ^^^ gm x Q) = gm x (P a) ^^^ gm a (P a) ^^^ gm (x ^^^ a) (gm x Q) := by rw [gm_add, add_gm]
    rw [h1, h2]
    generalize gm x (P a) = A
    generalize gm a (P a) = B
    generalize gm (x ^^^ a) (gm x Q) = C
    simp only [x_assoc, x_left B A, x_cancel]
theorem eval_zeros : ∀ (l : List UInt8) (x : UInt8), (∀ c ∈ l, c = 0) → evalP l x = 0
  | [], _, _ => rfl
  | c :: l, x, h => by rw [evalP, eval_zeros l x (fun c hc => h c (by simp [hc])), gm_zero, h c (by simp), x_zero]
theorem zeros_of_quo (a : UInt8) : ∀ l, evalP l a = 0 → (∀ c ∈ quoP a l, c = 0) → ∀ c ∈ l, c = 0
  | [], _, _ => by simp
  | [c], h, _ => by
    rw [evalP, evalP, gm_zero, x_zero] at h
    simp [h]
  | c :: b :: l, h, hq => by
    have h1 : evalP (b :: l) a = 0 := hq _ (by simp [quoP])
    have h2 := zeros_of_quo a (b :: l) h1 (fun d hd => hq d (by simp [quoP, hd]))
    rw [evalP, h1, gm_zero, x_zero] at h
    intro d hd
    rcases List.mem_cons.1 hd with e | e
    · rw [e, h]
    · exact h2 d e
/-- A polynomial that has more roots than it may is nothing. -/
theorem roots_zero : ∀ (xs : List UInt8) (l : List UInt8), xs.Nodup → l.length ≤ xs.length → (∀ x ∈ xs, evalP l x = 0) → ∀ c ∈ l, c = 0
  | [], l, _, h, _ => by
    have : l = [] := List.eq_nil_of_length_eq_zero (by simpa using h)
    simp [this]
  | a :: xs, l, hn, hl, hr => by
    obtain ⟨ha, hn'⟩ := List.nodup_cons.1 hn
    have h0 := hr a (by simp)
    refine zeros_of_quo a l h0 (roots_zero xs (quoP a l) hn' (by rw [quoP_len]; simp at hl; omega) fun x hx => ?_)
    have h1 := hr x (by simp [hx])
    rw [eval_quo a x l, h0, zero_x] at h1
    exact gm_eq_zero h1 (x_ne fun e => ha (e ▸ hx))
/-- The sum of two polynomials of one length. -/
def addP (l m : List UInt8) : List UInt8 := List.zipWith (· ^^^ ·) l m
theorem eval_add : ∀ (l m : List UInt8) (x : UInt8), l.length = m.length → evalP (addP l m) x = evalP l x ^^^ evalP m x
  | [], [], _, _ => by simp [addP, evalP]
  | a :: l, b :: m, x, h => by
    have ih := eval_add l m x (by simpa using h)
    rw [show addP (a :: l) (b :: m) = (a ^^^ b) :: addP l m from rfl, evalP, evalP, evalP, ih, gm_add]
    generalize gm x (evalP l x) = A
    generalize gm x (evalP m x) = B
    simp only [x_assoc, x_left b A]
/-- Two polynomials of one length that meet as often are the same. -/
theorem poly_unique (xs l m : List UInt8) (hn : xs.Nodup) (hl : l.length ≤ xs.length) (hm : l.length = m.length) (h : ∀ x ∈ xs, evalP l x = evalP m x) : l = m := by
  have hz := roots_zero xs (addP l m) hn (by simp [addP, hm]; omega) fun x hx => by rw [eval_add l m x hm, h x hx, x_self]
  apply List.ext_getElem hm
  intro i h1 h2
  have := hz (l[i] ^^^ m[i]) (List.mem_iff_getElem.2 ⟨i, by simp [addP]; omega, by simp [addP]⟩)
  exact x_eq this

/- LagT -/
set_option linter.unusedVariables false

def scaleP (c : UInt8) (l : List UInt8) : List UInt8 := l.map (gm c)
theorem eval_scale (c : UInt8) : ∀ (l : List UInt8) (x : UInt8), evalP (scaleP c l) x = gm c (evalP l x)
  | [], _ => by simp [scaleP, evalP, gm_zero]
  | a :: l, x => by
    have ih := eval_scale c l x
    rw [show scaleP c (a :: l) = gm c a :: scaleP c l from rfl, evalP, evalP, ih, gm_add, ← gm_assoc, ← gm_assoc, gm_comm x c]
theorem eval_snoc : ∀ (l : List UInt8) (x : UInt8), evalP (l ++ [0]) x = evalP l x
  | [], x => by simp [evalP, gm_zero]
  | a :: l, x => by rw [List.cons_append, evalP, evalP, eval_snoc l x]
/-- A function that a polynomial of n digits tells. -/
def IsPoly (n : Nat) (f : UInt8 → UInt8) : Prop := ∃ l : List UInt8, l.length = n ∧ ∀ x, evalP l x = f x
theorem IsPoly.const (c : UInt8) : IsPoly 1 (fun _ => c) := ⟨[c], rfl, fun x => by simp [evalP, gm_zero]⟩
theorem IsPoly.add {n f g} (hf : IsPoly n f) (hg : IsPoly n g) : IsPoly n (fun x => f x ^^^ g x) := by
  obtain ⟨l, h1, h2⟩ := hf
  obtain ⟨m, h3, h4⟩ := hg
  exact ⟨addP l m, by simp [addP, h1, h3], fun x => by rw [eval_add l m x (by omega), h2, h4]⟩
theorem IsPoly.scale {n f} (c : UInt8) (hf : IsPoly n f) : IsPoly n (fun x => gm c (f x)) := by
  obtain ⟨l, h1, h2⟩ := hf
  exact ⟨scaleP c l, by simp [scaleP, h1], fun x => by rw [eval_scale, h2]⟩
theorem IsPoly.zero (n : Nat) : IsPoly n (fun _ => 0) := ⟨List.replicate n 0, by simp, fun x => eval_zeros _ _ (by simp)⟩
theorem IsPoly.times {n f} (o c : UInt8) (hf : IsPoly n f) : IsPoly (n + 1) (fun x => gm (f x) (gm (x ^^^ o) c)) := by
  obtain ⟨l, h1, h2⟩ := hf
  refine ⟨addP (0 :: scaleP c l) (scaleP (gm o c) l ++ [0]), by simp [addP, scaleP, h1], fun x => ?_⟩
  rw [eval_add _ _ _ (by simp [scaleP]), eval_snoc, evalP, zero_x, eval_scale, eval_scale, h2]
  show gm x (gm c (f x)) ^^^ gm (gm o c) (f x) = gm (f x) (gm (x ^^^ o) c)
  rw [add_gm, gm_add, gm_comm (f x) (gm x c), gm_comm (f x) (gm o c), gm_assoc, gm_assoc]
/-- How much one place counts at x, of all others. -/
def wP (at' x : UInt8) (os : List UInt8) (p : UInt8) : UInt8 := os.foldl (fun p o => gm p (gm (x ^^^ o) (gi (at' ^^^ o)))) p
theorem wP_poly (at' : UInt8) : ∀ (os : List UInt8) (n : Nat) (f : UInt8 → UInt8), IsPoly n f → IsPoly (n + os.length) (fun x => wP at' x os (f x))
  | [], n, f, h => h
  | o :: os, n, f, h => by
    have := wP_poly at' os (n + 1) _ (h.times o (gi (at' ^^^ o)))
    rw [List.length_cons, show n + (os.length + 1) = n + 1 + os.length by omega]
    exact this
theorem wP_zero (at' x : UInt8) : ∀ os, wP at' x os 0 = 0
  | [] => rfl
  | o :: os => by
    show wP at' x os (gm 0 _) = 0
    rw [zero_gm, wP_zero at' x os]
theorem wP_other (at' x : UInt8) : ∀ (os : List UInt8) (p : UInt8), x ∈ os → wP at' x os p = 0
  | o :: os, p, h => by
    show wP at' x os (gm p (gm (x ^^^ o) _)) = 0
    rcases List.mem_cons.1 h with e | e
    · rw [← e, x_self, zero_gm, gm_zero, wP_zero]
    · exact wP_other at' x os _ e
theorem wP_self (x : UInt8) : ∀ (os : List UInt8) (p : UInt8), x ∉ os → wP x x os p = p
  | [], p, _ => rfl
  | o :: os, p, h => by
    show wP x x os (gm p (gm (x ^^^ o) (gi (x ^^^ o)))) = p
    rw [gm_gi _ (x_ne fun e => h (by simp [e])), gm_one, wP_self x os p (fun e => h (by simp [e]))]
/-- The sum that a row of terms has. -/
def sumX (l : List UInt8) : UInt8 := l.foldl (· ^^^ ·) 0
theorem foldx (l : List UInt8) : ∀ s : UInt8, l.foldl (· ^^^ ·) s = s ^^^ l.foldl (· ^^^ ·) 0 := by
  induction l with
  | nil => intro s; simp
  | cons a l ih => intro s; rw [List.foldl_cons, List.foldl_cons, ih, ih (0 ^^^ a), zero_x, x_assoc]
theorem sumX_cons (a : UInt8) (l : List UInt8) : sumX (a :: l) = a ^^^ sumX l := by rw [sumX, List.foldl_cons, foldx, zero_x, sumX]
theorem sumX_poly {n : Nat} (fs : List (UInt8 → UInt8)) (h : ∀ f ∈ fs, IsPoly n f) : IsPoly n (fun x => sumX (fs.map (· x))) := by
  induction fs with
  | nil => exact IsPoly.zero n
  | cons f fs ih =>
    have h1 := (h f (by simp)).add (ih fun g hg => h g (by simp [hg]))
    obtain ⟨l, e1, e2⟩ := h1
    exact ⟨l, e1, fun x => by
      rw [e2]
      show f x ^^^ sumX _ = sumX (f x :: _)
      rw [sumX_cons]⟩
theorem sumX_one (l : List UInt8) (j : Nat) (v : UInt8) (hj : l[j]? = some v) (h : ∀ (i : Nat) w, l[i]? = some w → i ≠ j → w = 0) : sumX l = v := by
  induction l generalizing j with
  | nil => simp at hj
  | cons a l ih =>
    rw [sumX_cons]
    cases j with
    | zero =>
      have : sumX l = 0 := by
        have hz : ∀ w ∈ l, w = 0 := fun w hw => by
          obtain ⟨i, hi, e⟩ := List.mem_iff_getElem.1 hw
          exact h (i + 1) w (by simp [hi, e]) (by omega)
        clear ih h hj
        induction l with
        | nil => rfl
        | cons b l ih => rw [sumX_cons, ih fun w hw => hz w (by simp [hw]), hz b (by simp), x_self]
      simp at hj
      rw [this, x_zero, hj]
    | succ j =>
      rw [h 0 a (by simp) (by omega), zero_x]
      exact ih j (by simpa using hj) fun i w e ne => h (i + 1) w (by simpa using e) (by omega)
theorem getD_at (l : List UInt8) (i : Nat) (h : i < l.length) : l.getD i 0 = l[i] := by simp [List.getD, h]
/-- What a row of values at xs has at x. -/
def atP (xs ys : List UInt8) (x : UInt8) : UInt8 := sumX ((List.range xs.length).map fun i => gm (wP (xs.getD i 0) x (xs.eraseIdx i) 1) (ys.getD i 0))
theorem atP_poly (xs ys : List UInt8) (h : xs.length ≠ 0) : IsPoly xs.length (atP xs ys) := by
  have := sumX_poly (n := xs.length) ((List.range xs.length).map fun i => fun x => gm (wP (xs.getD i 0) x (xs.eraseIdx i) 1) (ys.getD i 0)) (fun f hf => by
    obtain ⟨i, hi, e⟩ := List.mem_map.1 hf
    have hi' := List.mem_range.1 hi
    have h1 := (wP_poly (xs.getD i 0) (xs.eraseIdx i) 1 _ (IsPoly.const 1)).scale (ys.getD i 0)
    rw [List.length_eraseIdx, if_pos hi', show 1 + (xs.length - 1) = xs.length by omega] at h1
    obtain ⟨l, e1, e2⟩ := h1
    exact ⟨l, e1, fun x => by
      rw [e2, ← e]
      exact gm_comm _ _⟩)
  obtain ⟨l, e1, e2⟩ := this
  exact ⟨l, e1, fun x => by
    rw [e2]
    show sumX _ = sumX _
    rw [List.map_map]
    rfl⟩
theorem nodup_erase (xs : List UInt8) (h : xs.Nodup) (i : Nat) (hi : i < xs.length) : xs.getD i 0 ∉ xs.eraseIdx i ∧ ∀ j, j < xs.length → j ≠ i → xs.getD j 0 ∈ xs.eraseIdx i := by
  constructor
  · intro hm
    rw [List.mem_eraseIdx_iff_getElem] at hm
    obtain ⟨j, hj, ne, e⟩ := hm
    rw [getD_at _ _ hi] at e
    have hp := List.pairwise_iff_getElem.1 h
    rcases Nat.lt_or_gt_of_ne ne with c | c
    · exact hp j i hj hi c e
    · exact hp i j hi hj c e.symm
  · intro j hj ne
    rw [List.mem_eraseIdx_iff_getElem]
    exact ⟨j, hj, ne, by rw [getD_at _ _ hj]⟩
theorem atP_at (xs ys : List UInt8) (hn : xs.Nodup) (j : Nat) (hj : j < xs.length) : atP xs ys (xs.getD j 0) = ys.getD j 0 := by
  refine sumX_one _ j _ ?_ ?_
  · rw [List.getElem?_map, List.getElem?_range hj]
    show some (gm (wP (xs.getD j 0) (xs.getD j 0) (xs.eraseIdx j) 1) (ys.getD j 0)) = _
    rw [wP_self _ _ _ (nodup_erase xs hn j hj).1, one_gm]
  · intro i w e ne
    have hi : i < xs.length := by
      have := (List.getElem?_eq_some_iff.1 e).1
      simpa using this
    rw [List.getElem?_map, List.getElem?_range hi] at e
    have e := Option.some.inj e
    rw [← e]
    show gm (wP (xs.getD i 0) (xs.getD j 0) (xs.eraseIdx i) 1) (ys.getD i 0) = 0
    rw [wP_other _ _ _ _ ((nodup_erase xs hn i hi).2 j hj (Ne.symm ne)), zero_gm]
/-- Of the values that a polynomial has, all its values are told. -/
theorem atP_eval (xs l : List UInt8) (hn : xs.Nodup) (hl : l.length ≤ xs.length) (h0 : xs.length ≠ 0) (x : UInt8) : atP xs (xs.map (evalP l)) x = evalP l x := by
  obtain ⟨m, e1, e2⟩ := atP_poly xs (xs.map (evalP l)) h0
  have hpad : ∀ n y, evalP (l ++ List.replicate n 0) y = evalP l y := by
    intro n y
    induction n with
    | zero => simp
    | succ n ih => rw [List.replicate_succ', ← List.append_assoc, eval_snoc, ih]
  have := poly_unique xs m (l ++ List.replicate (xs.length - l.length) 0) hn (by omega) (by simp; omega) fun y hy => by
    obtain ⟨j, hj, e⟩ := List.mem_iff_getElem.1 hy
    have h1 := atP_at xs (xs.map (evalP l)) hn j hj
    rw [getD_at _ _ hj, getD_at _ _ (by simpa using hj), List.getElem_map, e] at h1
    rw [e2, h1, hpad]
  rw [← e2, this, hpad]

/- TapT -/
set_option linter.unusedVariables false

def zeroStep (l : List UInt8) (x : UInt8) : List UInt8 := addP (0 :: l) (scaleP x l ++ [0])
def zerosP (xs : List UInt8) : List UInt8 := xs.foldl zeroStep [1]
theorem zeroStep_len (l x) : (zeroStep l x).length = l.length + 1 := by simp [zeroStep, addP, scaleP]
theorem zeroStep_eval (l x y) : evalP (zeroStep l x) y = gm (y ^^^ x) (evalP l y) := by
  rw [zeroStep, eval_add _ _ _ (by simp [scaleP]), eval_snoc, eval_scale, evalP, zero_x, add_gm]
theorem zeroStep_last (l x) (h : l.getLast? = some 1) : (zeroStep l x).getLast? = some 1 := by
  have hl : 0 < l.length := by
    cases l with
    | nil => simp at h
    | cons a l => simp
  rw [List.getLast?_eq_getElem?] at h ⊢
  rw [zeroStep_len, show l.length + 1 - 1 = (l.length - 1) + 1 by omega]
  have h1 : (0 :: l)[(l.length - 1) + 1]? = some 1 := by simpa using h
  have h2 : (scaleP x l ++ [0])[(l.length - 1) + 1]? = some 0 := by
    rw [List.getElem?_append_right (by simp [scaleP]; omega)]
    simp [scaleP, show l.length - 1 + 1 - l.length = 0 by omega]
  rw [zeroStep, addP, List.getElem?_zipWith, h1, h2]
  rfl
theorem zeros_fold (xs : List UInt8) : ∀ l : List UInt8, l.getLast? = some 1 → (xs.foldl zeroStep l).length = l.length + xs.length ∧ (xs.foldl zeroStep l).getLast? = some 1 ∧ (∀ y, evalP l y = 0 → evalP (xs.foldl zeroStep l) y = 0) ∧ ∀ y ∈ xs, evalP (xs.foldl zeroStep l) y = 0 := by
  induction xs with
  | nil => intro l h; exact ⟨rfl, h, fun y e => e, by simp⟩
  | cons x xs ih =>
    intro l h
    obtain ⟨h1, h2, h3, h4⟩ := ih (zeroStep l x) (zeroStep_last l x h)
    refine ⟨by rw [List.foldl_cons, h1, zeroStep_len, List.length_cons]; omega, h2, fun y e => h3 y (by rw [zeroStep_eval, e, gm_zero]), fun y hy => ?_⟩
    rcases List.mem_cons.1 hy with e | e
    · exact h3 y (by rw [zeroStep_eval, e, x_self, zero_gm])
    · exact h4 y e
theorem zerosP_len (xs) : (zerosP xs).length = xs.length + 1 := by rw [zerosP, (zeros_fold xs [1] rfl).1]; simp; omega
theorem zerosP_last (xs) : (zerosP xs).getLast? = some 1 := (zeros_fold xs [1] rfl).2.1
theorem zerosP_root (xs) {y} (h : y ∈ xs) : evalP (zerosP xs) y = 0 := (zeros_fold xs [1] rfl).2.2.2 y h
theorem quo_last (a : UInt8) : ∀ l : List UInt8, 2 ≤ l.length → l.getLast? = some 1 → (quoP a l).getLast? = some 1
  | [], h, _ => by simp at h
  | [_], h, _ => by simp at h
  | [c, b], _, h => by
    have e : b = 1 := by simpa using h
    rw [e]
    simp [quoP, evalP, gm_zero]
  | c :: b :: d :: l, _, h => by
    have ih := quo_last a (b :: d :: l) (by simp) (by simpa using h)
    have hne : quoP a (b :: d :: l) ≠ [] := by simp [quoP]
    rw [quoP, List.getLast?_cons_of_ne_nil hne, ih]
/-- The zeros of all other places. -/
def quoZ (xs : List UInt8) (x : UInt8) : List UInt8 := quoP x (zerosP xs)
theorem quoZ_len (xs x) : (quoZ xs x).length = xs.length := by rw [quoZ, quoP_len, zerosP_len]; rfl
theorem quoZ_other (xs) {x y : UInt8} (hx : x ∈ xs) (hy : y ∈ xs) (ne : y ≠ x) : evalP (quoZ xs x) y = 0 := by
  have h := eval_quo x y (zerosP xs)
  rw [zerosP_root xs hx, zerosP_root xs hy, zero_x] at h
  exact gm_eq_zero h.symm (x_ne ne)
theorem quoZ_self (xs) (hn : xs.Nodup) {x : UInt8} (hx : x ∈ xs) : evalP (quoZ xs x) x ≠ 0 := by
  intro e
  have hz := roots_zero xs (quoZ xs x) hn (by rw [quoZ_len]; exact Nat.le_refl _) fun y hy => by
    by_cases c : y = x
    · rw [c, e]
    · exact quoZ_other xs hx hy c
  have hl : 0 < xs.length := List.length_pos_of_mem hx
  have h1 := quo_last x (zerosP xs) (by rw [zerosP_len]; omega) (zerosP_last xs)
  have := hz 1 (List.mem_of_getLast? h1)
  exact absurd this (by decide)
/-- What one share adds to the tape, of one byte's place. -/
def partP (xs : List UInt8) (x rest : UInt8) : List UInt8 := (quoZ xs x).map fun d => gm (gm d (gi (gm (evalP (quoZ xs x) x) x))) rest
theorem partP_len (xs x r) : (partP xs x r).length = xs.length := by rw [partP, List.length_map, quoZ_len]
theorem partP_eval (xs x r y) : evalP (partP xs x r) y = gm (gm (gi (gm (evalP (quoZ xs x) x) x)) r) (evalP (quoZ xs x) y) := by
  rw [← eval_scale, partP, scaleP]
  congr 1
  apply List.map_congr_left
  intro d _
  rw [gm_comm d, gm_assoc, gm_comm d r, gm_assoc]
def tapeStep (xs : List UInt8) (s : UInt8) (acc : List UInt8) (p : UInt8 × UInt8) : List UInt8 := addP acc (partP xs p.1 (s ^^^ p.2))
/-- A byte's polynomial, but for its first digit. -/
def tapeP (s : UInt8) (xs ys : List UInt8) : List UInt8 := (List.zip xs ys).foldl (tapeStep xs s) (List.replicate xs.length 0)
theorem tape_fold (xs : List UInt8) (s : UInt8) (hn : xs.Nodup) (h0 : (0 : UInt8) ∉ xs) : ∀ (ps : List (UInt8 × UInt8)) (acc : List UInt8), acc.length = xs.length → (ps.map Prod.fst).Nodup → (∀ p ∈ ps, p.1 ∈ xs) →
    (ps.foldl (tapeStep xs s) acc).length = xs.length ∧ (∀ y ∈ xs, y ∉ ps.map Prod.fst → evalP (ps.foldl (tapeStep xs s) acc) y = evalP acc y) ∧
    ∀ p ∈ ps, gm p.1 (evalP (ps.foldl (tapeStep xs s) acc) p.1) = gm p.1 (evalP acc p.1) ^^^ (s ^^^ p.2)
  | [], acc, hl, _, _ => ⟨hl, fun _ _ _ => rfl, by simp⟩
  | q :: ps, acc, hl, hd, hm => by
    have hlen : (tapeStep xs s acc q).length = xs.length := by simp [tapeStep, addP, hl, partP_len]
    obtain ⟨hq, hd'⟩ := List.nodup_cons.1 (by simpa using hd : (q.1 :: ps.map Prod.fst).Nodup)
    obtain ⟨h1, h2, h3⟩ := tape_fold xs s hn h0 ps _ hlen hd' fun p hp => hm p (by simp [hp])
    have hqx := hm q (by simp)
    have hev : ∀ y, evalP (tapeStep xs s acc q) y = evalP acc y ^^^ evalP (partP xs q.1 (s ^^^ q.2)) y := fun y => eval_add _ _ _ (by rw [hl, partP_len])
    have hother : ∀ y ∈ xs, y ≠ q.1 → evalP (tapeStep xs s acc q) y = evalP acc y := fun y hy ne => by
      rw [hev, partP_eval, quoZ_other xs hqx hy ne, gm_zero, x_zero]
    refine ⟨h1, fun y hy hn' => ?_, fun p hp => ?_⟩
    · simp only [List.map_cons, List.mem_cons, not_or] at hn'
      rw [List.foldl_cons, h2 y hy hn'.2, hother y hy hn'.1]
    · rw [List.foldl_cons]
      rcases List.mem_cons.1 hp with e | e
      · rw [e, h2 q.1 hqx hq, hev, partP_eval, gm_add]
        congr 1
        have hne : gm (evalP (quoZ xs q.1) q.1) q.1 ≠ 0 := fun e => by
          have := gm_eq_zero e (quoZ_self xs hn hqx)
          exact h0 (this ▸ hqx)
        generalize evalP (quoZ xs q.1) q.1 = E at hne ⊢
        rw [gm_comm _ E, ← gm_assoc q.1 E, gm_comm q.1 E, ← gm_assoc (gm E q.1), gm_gi _ hne, one_gm]
      · rw [h3 p e, hother p.1 (hm p (by simp [e])) (fun c => hq (c ▸ List.mem_map_of_mem e))]
/-- The polynomial with the secret's byte goes through the shares. -/
theorem tapeP_at (s : UInt8) (xs ys : List UInt8) (hn : xs.Nodup) (h0 : (0 : UInt8) ∉ xs) (hl : ys.length = xs.length) (i : Nat) (hi : i < xs.length) : evalP (s :: tapeP s xs ys) xs[i] = ys[i] := by
  have hz : (List.zip xs ys).map Prod.fst = xs := List.map_fst_zip (by omega)
  obtain ⟨_, _, h3⟩ := tape_fold xs s hn h0 (List.zip xs ys) (List.replicate xs.length 0) (by simp) (by rw [hz]; exact hn) (fun p hp => (List.of_mem_zip hp).1)
  have hp : (xs[i], ys[i]) ∈ List.zip xs ys := List.mem_iff_getElem.2 ⟨i, by simp; omega, by simp⟩
  have h := h3 _ hp
  simp only at h
  rw [evalP, tapeP, h, eval_zeros _ _ (by simp), gm_zero, zero_x, x_cancel]
theorem tapeP_len (s : UInt8) (xs ys : List UInt8) (hn : xs.Nodup) (h0 : (0 : UInt8) ∉ xs) (hl : ys.length = xs.length) : (tapeP s xs ys).length = xs.length := by
  have hz : (List.zip xs ys).map Prod.fst = xs := List.map_fst_zip (by omega)
  exact (tape_fold xs s hn h0 (List.zip xs ys) (List.replicate xs.length 0) (by simp) (by rw [hz]; exact hn) (fun p hp => (List.of_mem_zip hp).1)).1
/-- There is one such polynomial only. -/
theorem tapeP_back (s : UInt8) (l xs : List UInt8) (hn : xs.Nodup) (h0 : (0 : UInt8) ∉ xs) (hl : l.length = xs.length) : tapeP s xs (xs.map (evalP (s :: l))) = l := by
  have hy : (xs.map (evalP (s :: l))).length = xs.length := by simp
  have hlen := tapeP_len s xs _ hn h0 hy
  have := poly_unique (0 :: xs) (s :: tapeP s xs (xs.map (evalP (s :: l)))) (s :: l) (List.nodup_cons.2 ⟨h0, hn⟩) (by simp [hlen]) (by simp [hlen, hl]) fun x hx => by
    rcases List.mem_cons.1 hx with e | e
    · rw [e, evalP, evalP, zero_gm, zero_gm]
    · obtain ⟨i, hi, e⟩ := List.mem_iff_getElem.1 e
      rw [← e, tapeP_at s xs _ hn h0 hy i hi, List.getElem_map]
  exact (List.cons.inj this).2

end Go.Proofs.YtkbjmmigjjdfpaaGreatDoor
