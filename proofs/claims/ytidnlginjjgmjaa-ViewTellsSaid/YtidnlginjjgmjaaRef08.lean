/-
  Contracts of keyholeref08.All and Eval, and keyholeref09.row, at digits.
-/
import Derived.Test.YtidnlginjjgmjaaRef07
import Derived.Test.YtidnlginjjgmjaaSplit
namespace Go.Proofs.Ytidnlginjjgmjaa
open Go.RowKit
set_option linter.unusedVariables false
set_option maxRecDepth 100000
set_option maxHeartbeats 600000

theorem all8 (l : List UInt8) (A : Option Addr) (n c : Nat) (w : World) (hr : Rd w A (ints (nums l))) (hn : n = l.length) (hl : l.length ≤ 1000) : Calls Try.prog 70 #[.slice A n c] w fun e w' => e = .returned (.bool true) ∧ w' = w := by
  have HR := Lib.hid hr
  have HN := Lib.hid hn
  have hn1 : n ≤ 1000 := by omega
  clear hr hn
  go_enter Try.func70, Try.ntmps70
  go_wp2_with fail
  go_loopw [3] (fun x wr => ∃ i : Nat, i ≤ n ∧ x = .int .i64 (i : Nat) ∧ wr = w) (fun x _ => n - (intOf x).toNat)
  case atStart => exact ⟨0, by omega, rfl, rfl⟩
  case round =>
    obtain ⟨i, hi, rfl, rfl⟩ := hrel
    by_cases hlt : i < n
    · have hil : i < l.length := by rw [← HN.out]; exact hlt
      obtain ⟨b, off, hA, hc⟩ := HR.out.int_at (i := i) (by rw [nums_len]; exact hil)
      rw [nums_at l i hil] at hc
      subst hA
      generalize l.getD i 0 = a at hc
      have ha := a.toNat_lt
      have hiI : (i : Int) < (n : Int) := by omega
      go_wp2_with fail
      refine (digit7 (a.toNat : Int) _).mono ?_
      rintro e w1 ⟨rfl, rfl⟩
      rw [show (decide ((0 : Int) ≤ (a.toNat : Int)) && decide ((a.toNat : Int) ≤ 255)) = true by simp; omega]
      go_wp2_with fail
      go_roundw
      case rel => exact ⟨i + 1, by omega, by go_num, by trivial⟩
      case measure => simp [intOf]; omega
    · obtain rfl : i = n := by omega
      go_wp2_with fail
      go_ret
      exact ⟨rfl, rfl⟩

theorem eval8 (l : List UInt8) (x : UInt8) (A : Option Addr) (n c : Nat) (w : World) (hr : Rd w A (ints (nums l))) (hn : n = l.length) (hl : l.length ≤ 255) :
    Calls Try.prog 49 #[.slice A n c, dig x] w fun e w' => e = .returned (.tuple #[dig (evalP l x), .bool true]) ∧ w' = w := by
  have HR := Lib.hid hr
  have HN := Lib.hid hn
  have hn1 : n ≤ 255 := by omega
  have hx := x.toNat_lt
  have d1 : decide ((255 : Int) < (n : Int)) = false := by simp; omega
  clear hr hn
  go_enter Try.func49, Try.ntmps49
  go_wp2_with fail
  refine (all8 l A n c _ HR.out HN.out (by omega)).mono ?_
  rintro e w1 ⟨rfl, rfl⟩
  go_wp2_with fail
  refine (digit7 (x.toNat : Int) _).mono ?_
  rintro e w2 ⟨rfl, rfl⟩
  rw [show (decide ((0 : Int) ≤ (x.toNat : Int)) && decide ((x.toNat : Int) ≤ 255)) = true by simp; omega]
  go_wp2_with fail
  go_loopw [6, 7, 8] (fun nv wv v wr => ∃ i : Nat, i ≤ n ∧ v = .int .i64 (i : Nat) ∧ nv = dig (evalP (l.take i) x) ∧ wv = dig (pw x i) ∧ wr = w2) (fun _ _ v _ => n - (intOf v).toNat)
  case atStart => exact ⟨0, by omega, rfl, rfl, rfl, rfl⟩
  case round =>
    obtain ⟨i, hi, rfl, rfl, rfl, rfl⟩ := hrel
    by_cases hlt : i < n
    · have hil : i < l.length := by rw [← HN.out]; exact hlt
      obtain ⟨b, off, hA, hc⟩ := HR.out.int_at (i := i) (by rw [nums_len]; exact hil)
      rw [nums_at l i hil] at hc
      subst hA
      have He := Lib.hid (eval_snoc' l x i hil)
      have Hp := Lib.hid (show pw x (i + 1) = gm (pw x i) x from rfl)
      generalize l.getD i 0 = a at hc He
      generalize evalP (l.take i) x = s at He ⊢
      generalize pw x i = p at He Hp ⊢
      have hiI : (i : Int) < (n : Int) := by omega
      go_wp2_with fail
      refine (times7 a p _).mono ?_
      rintro e w3 ⟨rfl, rfl⟩
      go_wp2_with fail
      refine (sum7 s (gm a p) _).mono ?_
      rintro e w3 ⟨rfl, rfl⟩
      go_wp2_with fail
      refine (times7 p x _).mono ?_
      rintro e w3 ⟨rfl, rfl⟩
      go_wp2_with fail
      go_roundw
      case rel => exact ⟨i + 1, by omega, by go_num, by rw [He.out], by rw [Hp.out], by trivial⟩
      case measure => simp [intOf]; omega
    · obtain rfl : i = n := by omega
      rw [HN.out, List.take_of_length_le (Nat.le_refl _)]
      go_wp2_with fail
      go_ret2
      exact ⟨rfl, rfl⟩

theorem row9 (s t : ByteArray) (j m : Nat) (w : World) (hj : j < 32) (hsz : s.size = 32) (htz : t.size = 32 * m) (hm : m ≤ 300) :
    Calls Try.prog 50 #[.string s, .int .i64 ((m + 1 : Nat) : Int), .string t, .int .i64 (j : Int)] w fun e w' => ∃ A c, e = .returned (.slice A (m + 1) c) ∧ w'.ownsRow w.heap.size 3 1 (.slice A (m + 1) c) (m + 1) (ints (nums (colL s.data.toList t.data.toList j m))) ∧ Below w.heap.size w w' := by
  have Hsx := Lib.hid (str_at s j (by omega))
  have hjs : (j : Int) < (s.size : Int) := by omega
  obtain ⟨k, hk⟩ : ∃ k, k = m + 1 := ⟨_, rfl⟩
  rw [← hk]
  have Hk := Lib.hid hk
  have hkm : (k : Int) = (m : Int) + 1 := by omega
  clear hk
  have Hkm := Lib.hid hkm
  clear hkm
  go_enter Try.func50, Try.ntmps50
  go_wp2_with fail
  rw [Hsx.out]
  obtain ⟨x, hx⟩ : ∃ x, x = s.data.toList.getD j 0 := ⟨_, rfl⟩
  rw [← hx, wrap64_u8]
  have Hx := Lib.hid hx
  clear hx Hsx
  have HO0 := Lib.hid (own_new (w := w) (B := w.heap.size) (e := 3) (size := 1) (n := 1) (cs := (ints (nums [x])).toArray) (Nat.le_refl _) rfl (by decide))
  go_loopw [9, 10] (fun v a wr => ∃ (q : Nat) (A : Option Addr) (cap : Nat), q ≤ m ∧ a = .int .i64 ((q + 1 : Nat) : Int) ∧ v = .slice A (q + 1) cap ∧ wr.ownsRow w.heap.size 3 1 v (q + 1) (ints (nums (colL s.data.toList t.data.toList j q))) ∧ Below w.heap.size w wr) (fun _ a _ => m + 1 - (intOf a).toNat)
  case atStart => exact ⟨0, _, _, by omega, rfl, rfl, by rw [show colL s.data.toList t.data.toList j 0 = [x] by rw [Hx.out]; rfl]; exact HO0.out, (Below.refl _ _).alloc (Nat.le_refl _) _⟩
  case round =>
    obtain ⟨q, A, cap, hq, rfl, rfl, ho, hb⟩ := hrel
    have hkm := Hkm.out
    by_cases hlt : q < m
    · obtain ⟨T, hT⟩ : ∃ T, T = j + 32 * q := ⟨_, rfl⟩
      have hTl : T < t.size := by omega
      have hTe : 32 * (((q + 1 : Nat) : Int) - 1) + (j : Int) = (T : Int) := by omega
      have hTe2 : 32 * (q : Int) + (j : Int) = (T : Int) := by omega
      have hTi : (T : Int) < (t.size : Int) := by omega
      have hq1 : ((q + 1 : Nat) : Int) < (k : Int) := by omega
      have hq2 : (q : Int) + 1 < (k : Int) := by omega
      have Htx := Lib.hid (str_at t T hTl)
      have HO := Lib.hid ho
      have HT := Lib.hid hT
      clear ho hT hkm
      go_wp2_with (at_builtin; refine wpList_append_new (by rfl) (.tmp 21) (.tmp 30) 48 (by rfl) w.heap.size 3 (.int .i64 0) 1 8 Try.underlying48 int_info rfl (by omega) wr _ _ _ _ _ (by rfl) HO.out _ 1 1 (by rfl) (by rfl) (by rfl) (by rfl) (by omega) (by omega) (by omega) (by exact hb.size) ?_)
      intro g2 cap2 w2 ho2 hb2 _ _ _
      rw [Htx.out, wrap64_u8] at ho2
      have HO2 := Lib.hid ho2
      clear ho2
      go_wp2_with fail
      go_roundw
      case rel =>
        refine ⟨q + 1, _, cap2, by omega, by go_num, rfl, ?_, hb.trans hb2⟩
        have := HO2.out
        rw [HT.out] at this
        rw [colL_snoc, nums_append, ints_append]
        exact this
      case measure => simp [intOf]; omega
    · obtain rfl : q = m := by omega
      have HO := Lib.hid ho
      have hq1 : ¬ (q : Int) + 1 < (k : Int) := by omega
      clear ho
      go_wp2_with fail
      go_ret
      exact ⟨A, cap, by rw [Hk.out]; rfl, by rw [Hk.out]; exact HO.out, hb⟩
end Go.Proofs.Ytidnlginjjgmjaa
