/-
  Contracts of poly.fold, poly.digits, poly.add, poly.mul.
-/
import Derived.Test.YtidnlginjjgmjaaFBytes
namespace Go.Proofs.Ytidnlginjjgmjaa
open Go.RowKit
set_option linter.unusedVariables false
set_option maxRecDepth 100000
set_option maxHeartbeats 2000000

theorem fold_ii (xs : List Int) (A : Option Addr) (n c : Nat) (start : Value) (fn : FuncId) (cap : Array Value) (w : World) (I : Nat → Value → World → Prop) (hn : n = xs.length) (hl : xs.length ≤ 1000000)
    (hent : ∀ args W, (callFunc fn args).run Try.prog W = .ok (.enter fn args) W)
    (h0 : I 0 start w) (hrd : ∀ k v W, I k v W → Rd W A (ints xs))
    (hstep : ∀ k v W, k < xs.length → I k v W → Calls Try.prog fn (#[v, .int .i64 (xs.getD k 0)] ++ cap) W fun e W' => ∃ v', e = .returned v' ∧ I (k + 1) v' W') :
    Calls Try.prog 44 #[.slice A n c, start, .func (.func fn) #[] cap] w fun e w' => ∃ v, e = .returned v ∧ I xs.length v w' := by
  subst hn
  have H0 := Lib.hid h0
  have HR := Lib.hid hrd
  have HS := Lib.hid hstep
  clear h0 hrd hstep
  go_enter Try.func44, Try.ntmps44
  go_wp2_with fail
  go_loopw [1, 8, 11] (fun s _ i wr => ∃ k : Nat, k ≤ xs.length ∧ i = .int .i64 (k : Nat) ∧ I k s wr) (fun _ _ i _ => xs.length - (intOf i).toNat)
  case atStart => exact ⟨0, by omega, rfl, H0.out⟩
  case round =>
    obtain ⟨k, hk, rfl, hI⟩ := hrel
    by_cases hlt : k < xs.length
    · obtain ⟨b, off, hA, hc⟩ := (HR.out _ _ _ hI).int_at hlt
      subst hA
      have HI := Lib.hid hI
      clear hI
      generalize hx : xs.getD k 0 = x at hc
      have Hx := Lib.hid hx
      clear hx
      go_wp2_with fail
      refine Calls.mono (Hx.out ▸ HS.out k _ _ hlt HI.out) ?_
      rintro e w3 ⟨v', rfl, hI'⟩
      have HI' := Lib.hid hI'
      clear hI'
      go_wp2_with fail
      go_roundw
      case rel => exact ⟨k + 1, by omega, by go_num, HI'.out⟩
      case measure => simp [intOf]; omega
    · obtain rfl : k = xs.length := by omega
      have HI := Lib.hid hI
      clear hI
      go_wp2_with fail
      go_ret
      exact ⟨_, rfl, HI.out⟩
theorem fold_ib (xs : List Int) (A : Option Addr) (n c : Nat) (start : Value) (fn : FuncId) (cap : Array Value) (w : World) (I : Nat → Value → World → Prop) (hn : n = xs.length) (hl : xs.length ≤ 1000000)
    (hent : ∀ args W, (callFunc fn args).run Try.prog W = .ok (.enter fn args) W)
    (h0 : I 0 start w) (hrd : ∀ k v W, I k v W → Rd W A (ints xs))
    (hstep : ∀ k v W, k < xs.length → I k v W → Calls Try.prog fn (#[v, .int .i64 (xs.getD k 0)] ++ cap) W fun e W' => ∃ v', e = .returned v' ∧ I (k + 1) v' W') :
    Calls Try.prog 62 #[.slice A n c, start, .func (.func fn) #[] cap] w fun e w' => ∃ v, e = .returned v ∧ I xs.length v w' := by
  subst hn
  have H0 := Lib.hid h0
  have HR := Lib.hid hrd
  have HS := Lib.hid hstep
  clear h0 hrd hstep
  go_enter Try.func62, Try.ntmps62
  go_wp2_with fail
  go_loopw [1, 8, 11] (fun s _ i wr => ∃ k : Nat, k ≤ xs.length ∧ i = .int .i64 (k : Nat) ∧ I k s wr) (fun _ _ i _ => xs.length - (intOf i).toNat)
  case atStart => exact ⟨0, by omega, rfl, H0.out⟩
  case round =>
    obtain ⟨k, hk, rfl, hI⟩ := hrel
    by_cases hlt : k < xs.length
    · obtain ⟨b, off, hA, hc⟩ := (HR.out _ _ _ hI).int_at hlt
      subst hA
      have HI := Lib.hid hI
      clear hI
      generalize hx : xs.getD k 0 = x at hc
      have Hx := Lib.hid hx
      clear hx
      go_wp2_with fail
      refine Calls.mono (Hx.out ▸ HS.out k _ _ hlt HI.out) ?_
      rintro e w3 ⟨v', rfl, hI'⟩
      have HI' := Lib.hid hI'
      clear hI'
      go_wp2_with fail
      go_roundw
      case rel => exact ⟨k + 1, by omega, by go_num, HI'.out⟩
      case measure => simp [intOf]; omega
    · obtain rfl : k = xs.length := by omega
      have HI := Lib.hid hI
      clear hI
      go_wp2_with fail
      go_ret
      exact ⟨_, rfl, HI.out⟩

/-- Is x a digit? -/
def digB (x : Int) : Bool := decide (0 ≤ x) && decide (x ≤ 255)
theorem digits1_any (b : Bool) (x : Int) (w : World) : Calls Try.prog 63 #[.bool b, .int .i64 x] w fun e w' => e = .returned (.bool (b && digB x)) ∧ w' = w := by
  cases b
  · go_enter Try.func63, Try.ntmps63
    go_wp2_with fail
    go_ret
    exact ⟨rfl, rfl⟩
  · by_cases h : 0 ≤ x
    · go_enter Try.func63, Try.ntmps63
      go_wp2_with fail
      go_ret
      exact ⟨by simp [digB, h], rfl⟩
    · go_enter Try.func63, Try.ntmps63
      go_wp2_with fail
      go_ret
      exact ⟨by simp [digB]; omega, rfl⟩
theorem digB_snoc (xs : List Int) (k : Nat) (h : k < xs.length) : (xs.take (k + 1)).all digB = ((xs.take k).all digB && digB (xs.getD k 0)) := by
  rw [List.take_succ_eq_append_getElem h, List.all_append]
  simp [h]
theorem digits_any (xs : List Int) (A : Option Addr) (n c : Nat) (w : World) (hr : Rd w A (ints xs)) (hn : n = xs.length) (hl : xs.length ≤ 1000000) :
    Calls Try.prog 43 #[.slice A n c] w fun e w' => e = .returned (.bool (xs.all digB)) ∧ w' = w := by
  have H := Lib.hid hr
  have HN := Lib.hid hn
  clear hr hn
  go_enter Try.func43, Try.ntmps43
  go_wp2_with fail
  refine (fold_ib xs A n c (.bool true) 63 #[] w (fun k v W => v = .bool ((xs.take k).all digB) ∧ W = w) HN.out hl (enters_of Try.func63 (by kernel_rfl) rfl) ⟨rfl, rfl⟩ (fun k v W h => h.2 ▸ H.out) ?_).mono ?_
  · rintro k v W hk ⟨rfl, rfl⟩
    refine (digits1_any _ _ W).mono ?_
    rintro e w' ⟨rfl, rfl⟩
    exact ⟨_, rfl, by rw [digB_snoc xs k hk], rfl⟩
  · rintro e w' ⟨v, rfl, rfl, rfl⟩
    go_wp2_with fail
    go_ret
    exact ⟨by simp, rfl⟩

theorem padd_dig (a b : UInt8) (w : World) : Calls Try.prog 46 #[dig a, dig b] w fun e w' => e = .returned (dig (a ^^^ b)) ∧ w' = w := by
  go_enter Try.func46, Try.ntmps46
  go_wp2_with fail
  refine (add_dig a b _).mono ?_
  rintro e w' ⟨rfl, rfl⟩
  go_wp2_with fail
  go_ret
  exact ⟨rfl, rfl⟩
theorem pmul_dig (a b : UInt8) (w : World) (g : Nat) (h : IsField w g) : Calls Try.prog 47 #[.pointer (some ⟨g, 0, none⟩), dig a, dig b] w fun e w' => e = .returned (dig (gm a b)) ∧ Below w.heap.size w w' := by
  have H := Lib.hid h
  clear h
  go_enter Try.func47, Try.ntmps47
  go_wp2_with fail
  refine (mul_dig a b _ g H.out).mono ?_
  rintro e w' ⟨rfl, hb⟩
  go_wp2_with fail
  go_ret
  exact ⟨rfl, hb⟩

/-- Digits as numbers. -/
def nums (l : List UInt8) : List Int := l.map fun a => (a.toNat : Int)
theorem nums_len (l : List UInt8) : (nums l).length = l.length := by simp [nums]
theorem nums_all (l : List UInt8) : (nums l).all digB = true := by
  rw [List.all_eq_true]
  intro x hx
  obtain ⟨a, _, rfl⟩ := List.mem_map.1 hx
  have := a.toNat_lt
  simp [digB]
  omega
theorem nums_at (l : List UInt8) (k : Nat) (h : k < l.length) : (nums l).getD k 0 = ((l.getD k 0).toNat : Int) := by simp [nums, h]
/-- x times itself, k times. -/
def pw (x : UInt8) : Nat → UInt8
  | 0 => 1
  | k + 1 => gm (pw x k) x
theorem eval_append (x : UInt8) : ∀ (l m : List UInt8), evalP (l ++ m) x = evalP l x ^^^ gm (pw x l.length) (evalP m x)
  | [], m => by simp [evalP, pw, one_gm]
  | a :: l, m => by
    rw [List.cons_append, evalP, evalP, eval_append x l m, gm_add, x_assoc, List.length_cons, pw, gm_comm (pw x l.length) x, gm_assoc]
theorem eval_snoc' (l : List UInt8) (x : UInt8) (k : Nat) (h : k < l.length) : evalP (l.take (k + 1)) x = evalP (l.take k) x ^^^ gm (l.getD k 0) (pw x k) := by
  rw [List.take_succ_eq_append_getElem h, eval_append]
  have : (l.take k).length = k := by simp; omega
  rw [this, gm_comm (l.getD k 0)]
  simp [evalP, gm_zero, h]

theorem gbb_trans {a w w' : World} {row : Option Nat} (h : a.grownBy w row) (k : w.grownBy w' row) : a.grownBy w' row :=
  ⟨k.os.trans h.os, k.tape.trans h.tape, k.output.trans h.output, Nat.le_trans h.size k.size, fun i hi hr => (k.block i (Nat.lt_of_lt_of_le hi h.size) hr).trans (h.block i hi hr)⟩
/-- A variable of its own. -/
abbrev Box (w : World) (g : Nat) (t : TypeId) (v : Value) : Prop := w.heap[g]? = some (.cells #[v] t (0, 0))
theorem box_set {w : World} {g : Nat} {t : TypeId} {v : Value} (h : Box w g t v) (u : Value) : Box (w.setCell ⟨g, 0, none⟩ u) g t u := blk_set h 0 u
theorem box_free {w : World} {g : Nat} {t : TypeId} {v : Value} (h : Box w g t v) : w.frozen? ⟨g, 0, none⟩ = false := by
  unfold World.frozen?; simp only [h]; rfl

theorem eval1_any (s a p x : UInt8) (w : World) (g gf gp gx : Nat) (h : IsField w g) (hf : Box w gf 61 (.pointer (some ⟨g, 0, none⟩))) (hp : Box w gp 3 (dig p)) (hx : Box w gx 3 (dig x)) :
    Calls Try.prog 45 #[dig s, dig a, .pointer (some ⟨gf, 0, none⟩), .pointer (some ⟨gp, 0, none⟩), .pointer (some ⟨gx, 0, none⟩)] w fun e w' => e = .returned (dig (s ^^^ gm a p)) ∧ Box w' gp 3 (dig (gm p x)) ∧ w.grownBy w' (some gp) := by
  have H := Lib.hid h
  have Hf := Lib.hid hf
  have Hp := Lib.hid hp
  have Hx := Lib.hid hx
  have cf := one_cell hf
  have cp := one_cell hp
  clear h hf hp hx
  go_enter Try.func45, Try.ntmps45
  go_wp2_with fail
  refine (pmul_dig a p _ g H.out).mono ?_
  rintro e w1 ⟨rfl, hb1⟩
  go_wp2_with fail
  refine (padd_dig s (gm a p) _).mono ?_
  rintro e w1' ⟨rfl, rfl⟩
  clear cf cp
  have cf := one_cell (cells_below Hf.out hb1)
  have cp := one_cell (cells_below Hp.out hb1)
  have cx := one_cell (cells_below Hx.out hb1)
  go_wp2_with fail
  refine (pmul_dig p x _ g (H.out.keep hb1)).mono ?_
  rintro e w2 ⟨rfl, hb2⟩
  have hb := Below.chain hb1 hb2
  have bp := cells_below Hp.out hb
  clear cf cp cx
  have cp := one_cell bp
  have cp' := box_free bp
  have Hbp := Lib.hid (box_set bp (dig (gm p x)))
  have Hg : Hid (w.grownBy (w2.setCell ⟨gp, 0, none⟩ (dig (gm p x))) (some gp)) := Lib.hid ⟨hb.os, hb.tape, hb.output, by simpa using hb.size, fun i hi hne => (Below.heap_setCell _ _ _ _ (fun e => hne (by rw [e]))).trans (hb.block i hi)⟩
  clear bp
  go_wp2_with fail
  go_ret
  exact ⟨rfl, Hbp.out, Hg.out⟩
end Go.Proofs.Ytidnlginjjgmjaa
