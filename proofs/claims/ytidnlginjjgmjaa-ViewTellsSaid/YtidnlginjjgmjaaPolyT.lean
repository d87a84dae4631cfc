/-
  Polynomials over the field of 256 digits: plain facts, no program in sight.
-/
import Derived.Test.YtidnlginjjgmjaaGf
namespace Go.Proofs.Ytidnlginjjgmjaa
set_option linter.unusedVariables false

/-- The product, of bytes. -/
def gm (a b : UInt8) : UInt8 := UInt8.ofNat (mulG a.toNat b.toNat)
def gi (a : UInt8) : UInt8 := UInt8.ofNat (invG a.toNat)
theorem u8_ext {a b : UInt8} (h : a.toNat = b.toNat) : a = b := UInt8.toNat_inj.1 h
theorem gm_nat (a b : UInt8) : (gm a b).toNat = mulG a.toNat b.toNat := by
  have := mulG_lt a.toNat b.toNat b.toNat_lt
  rw [gm, UInt8.toNat_ofNat']
  exact Nat.mod_eq_of_lt this
theorem gi_nat (a : UInt8) : (gi a).toNat = invG a.toNat := by
  have := invG_lt a.toNat
  rw [gi, UInt8.toNat_ofNat']
  exact Nat.mod_eq_of_lt this
theorem gm_comm (a b : UInt8) : gm a b = gm b a := u8_ext (by rw [gm_nat, gm_nat, mulG_comm _ _ a.toNat_lt b.toNat_lt])
theorem gm_assoc (a b c : UInt8) : gm (gm a b) c = gm a (gm b c) := u8_ext (by rw [gm_nat, gm_nat, gm_nat, gm_nat, mulG_assoc _ _ _ a.toNat_lt b.toNat_lt c.toNat_lt])
theorem gm_add (a b c : UInt8) : gm a (b ^^^ c) = gm a b ^^^ gm a c := u8_ext (by rw [gm_nat, UInt8.toNat_xor, mulG_xor _ _ _ b.toNat_lt c.toNat_lt, UInt8.toNat_xor, gm_nat, gm_nat])
theorem add_gm (a b c : UInt8) : gm (b ^^^ c) a = gm b a ^^^ gm c a := by rw [gm_comm, gm_add, gm_comm a b, gm_comm a c]
theorem gm_zero (a : UInt8) : gm a 0 = 0 := u8_ext (by rw [gm_nat]; exact mulG_zero _)
theorem zero_gm (a : UInt8) : gm 0 a = 0 := by rw [gm_comm, gm_zero]
theorem one_gm (a : UInt8) : gm 1 a = a := u8_ext (by rw [gm_nat]; exact mulG_one _)
theorem gm_one (a : UInt8) : gm a 1 = a := by rw [gm_comm, one_gm]
theorem gm_gi (a : UInt8) (h : a ≠ 0) : gm a (gi a) = 1 := u8_ext (by
  rw [gm_nat, gi_nat, invG_mul _ (fun e => h (u8_ext e)) a.toNat_lt]
  rfl)
theorem gm_eq_zero {a b : UInt8} (h : gm a b = 0) (ha : a ≠ 0) : b = 0 := by
  have h2 : gm (gi a) (gm a b) = 0 := by rw [h, gm_zero]
  rw [← gm_assoc, gm_comm (gi a) a, gm_gi a ha, one_gm] at h2
  exact h2
theorem x_self (a : UInt8) : a ^^^ a = 0 := UInt8.xor_self
theorem x_zero (a : UInt8) : a ^^^ 0 = a := UInt8.xor_zero
theorem zero_x (a : UInt8) : 0 ^^^ a = a := UInt8.zero_xor
theorem x_comm (a b : UInt8) : a ^^^ b = b ^^^ a := UInt8.xor_comm a b
theorem x_assoc (a b c : UInt8) : a ^^^ b ^^^ c = a ^^^ (b ^^^ c) := UInt8.xor_assoc a b c
theorem x_eq {a b : UInt8} (h : a ^^^ b = 0) : a = b := UInt8.xor_eq_zero_iff.1 h
theorem x_ne {a b : UInt8} (h : a ≠ b) : a ^^^ b ≠ 0 := fun e => h (x_eq e)
theorem x_left (a b c : UInt8) : a ^^^ (b ^^^ c) = b ^^^ (a ^^^ c) := by rw [← x_assoc, x_comm a b, x_assoc]
theorem x_cancel (a b : UInt8) : a ^^^ (a ^^^ b) = b := by rw [← x_assoc, x_self, zero_x]

/-- The value of a polynomial, its lowest digit first. -/
def evalP : List UInt8 → UInt8 → UInt8
  | [], _ => 0
  | a :: l, x => a ^^^ gm x (evalP l x)
/-- A polynomial divided by x plus a. -/
def quoP (a : UInt8) : List UInt8 → List UInt8
  | [] => []
  | [_] => []
  | _ :: b :: l => evalP (b :: l) a :: quoP a (b :: l)
theorem quoP_len (a : UInt8) : ∀ l, (quoP a l).length = l.length - 1
  | [] => rfl
  | [_] => rfl
  | _ :: b :: l => by simp [quoP, quoP_len a (b :: l)]
theorem eval_quo (a x : UInt8) : ∀ l, evalP l x = evalP l a ^^^ gm (x ^^^ a) (evalP (quoP a l) x)
  | [] => by simp [evalP, quoP, gm_zero]
  | [c] => by simp [evalP, quoP, gm_zero]
  | c :: b :: l => by
    have ih := eval_quo a x (b :: l)
    show c ^^^ gm x (evalP (b :: l) x) = (c ^^^ gm a (evalP (b :: l) a)) ^^^ gm (x ^^^ a) (evalP (b :: l) a ^^^ gm x (evalP (quoP a (b :: l)) x))
    generalize evalP (b :: l) = P at ih ⊢
    generalize evalP (quoP a (b :: l)) x = Q at ih ⊢
    have h1 : gm x (P x) = gm x (P a) ^^^ gm (x ^^^ a) (gm x Q) := by rw [ih, gm_add, ← gm_assoc, gm_comm x (x ^^^ a), gm_assoc]
    have h2 : gm (x ^^^ a) (P a ^^^ gm x Q) = gm x (P a) ^^^ gm a (P a) ^^^ gm (x ^^^ a) (gm x Q) := by rw [gm_add, add_gm]
    rw [h1, h2]
    generalize gm x (P a) = A
    generalize gm a (P a) = B
    generalize gm (x ^^^ a) (gm x Q) = C
    simp only [x_assoc, x_left B A, x_cancel]
theorem eval_zeros : ∀ (l : List UInt8) (x : UInt8), (∀ c ∈ l, c = 0) → evalP l x = 0
  | [], _, _ => rfl
  | c :: l, x, h => by rw [evalP, eval_zeros l x (fun c hc => h c (by simp [hc])), gm_zero, h c (by simp), x_zero]
theorem zeros_of_quo (a : UInt8) : ∀ l, evalP l a = 0 → (∀ c ∈ quoP a l, c = 0) → ∀ c ∈ l, c = 0
  | [], _, _ => by simp
  | [c], h, _ => by
    rw [evalP, evalP, gm_zero, x_zero] at h
    simp [h]
  | c :: b :: l, h, hq => by
    have h1 : evalP (b :: l) a = 0 := hq _ (by simp [quoP])
    have h2 := zeros_of_quo a (b :: l) h1 (fun d hd => hq d (by simp [quoP, hd]))
    rw [evalP, h1, gm_zero, x_zero] at h
    intro d hd
    rcases List.mem_cons.1 hd with e | e
    · rw [e, h]
    · exact h2 d e
/-- A polynomial that has more roots than it may is nothing. -/
theorem roots_zero : ∀ (xs : List UInt8) (l : List UInt8), xs.Nodup → l.length ≤ xs.length → (∀ x ∈ xs, evalP l x = 0) → ∀ c ∈ l, c = 0
  | [], l, _, h, _ => by
    have : l = [] := List.eq_nil_of_length_eq_zero (by simpa using h)
    simp [this]
  | a :: xs, l, hn, hl, hr => by
    obtain ⟨ha, hn'⟩ := List.nodup_cons.1 hn
    have h0 := hr a (by simp)
    refine zeros_of_quo a l h0 (roots_zero xs (quoP a l) hn' (by rw [quoP_len]; simp at hl; omega) fun x hx => ?_)
    have h1 := hr x (by simp [hx])
    rw [eval_quo a x l, h0, zero_x] at h1
    exact gm_eq_zero h1 (x_ne fun e => ha (e ▸ hx))
/-- The sum of two polynomials of one length. -/
def addP (l m : List UInt8) : List UInt8 := List.zipWith (· ^^^ ·) l m
theorem eval_add : ∀ (l m : List UInt8) (x : UInt8), l.length = m.length → evalP (addP l m) x = evalP l x ^^^ evalP m x
  | [], [], _, _ => by simp [addP, evalP]
  | a :: l, b :: m, x, h => by
    have ih := eval_add l m x (by simpa using h)
    rw [show addP (a :: l) (b :: m) = (a ^^^ b) :: addP l m from rfl, evalP, evalP, evalP, ih, gm_add]
    generalize gm x (evalP l x) = A
    generalize gm x (evalP m x) = B
    simp only [x_assoc, x_left b A]
/-- Two polynomials of one length that meet as often are the same. -/
theorem poly_unique (xs l m : List UInt8) (hn : xs.Nodup) (hl : l.length ≤ xs.length) (hm : l.length = m.length) (h : ∀ x ∈ xs, evalP l x = evalP m x) : l = m := by
  have hz := roots_zero xs (addP l m) hn (by simp [addP, hm]; omega) fun x hx => by rw [eval_add l m x hm, h x hx, x_self]
  apply List.ext_getElem hm
  intro i h1 h2
  have := hz (l[i] ^^^ m[i]) (List.mem_iff_getElem.2 ⟨i, by simp [addP]; omega, by simp [addP]⟩)
  exact x_eq this
end Go.Proofs.Ytidnlginjjgmjaa
