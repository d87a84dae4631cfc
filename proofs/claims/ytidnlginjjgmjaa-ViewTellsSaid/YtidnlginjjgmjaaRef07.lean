/-
  Contracts of keyholeref07: Sum, double, Times, Inv, Digit, at digits: the document's product is the field's.
-/
import Derived.Test.YtidnlginjjgmjaaUnl
import Derived.Test.YtidnlginjjgmjaaField
namespace Go.Proofs.Ytidnlginjjgmjaa
open Go.RowKit
set_option linter.unusedVariables false
set_option maxRecDepth 100000
set_option maxHeartbeats 600000

/-- Twice a digit. -/
def dblU (a : UInt8) : UInt8 := UInt8.ofNat (dbl a.toNat)
theorem dblU_nat (a : UInt8) : (dblU a).toNat = dbl a.toNat := by
  rw [dblU, UInt8.toNat_ofNat']
  exact Nat.mod_eq_of_lt (dbl_lt _ a.toNat_lt)
theorem gm_two (a : UInt8) : gm 2 a = dblU a := by
  apply u8_ext
  rw [gm_nat, dblU_nat]
  have : (List.range 256).all (fun a => decide (mulG 2 a = dbl a)) = true := by decide +kernel
  have h := bytes_all this a.toNat a.toNat_lt
  simpa using h
theorem gm_dbl (a b : UInt8) : gm a (dblU b) = gm (dblU a) b := by rw [← gm_two, ← gm_two, ← gm_assoc, gm_comm a 2]
/-- A number's half: the product's step. -/
theorem gm_half (a : UInt8) (b : Nat) (hb : b < 256) : gm a (UInt8.ofNat b) = (if b % 2 = 1 then a else 0) ^^^ gm (dblU a) (UInt8.ofNat (b / 2)) := by
  have h1 : UInt8.ofNat b = (if b % 2 = 1 then 1 else 0) ^^^ dblU (UInt8.ofNat (b / 2)) := by
    have : (List.range 256).all (fun b => decide (UInt8.ofNat b = (if b % 2 = 1 then 1 else 0) ^^^ dblU (UInt8.ofNat (b / 2)))) = true := by decide +kernel
    have h := bytes_all this b hb
    simpa using h
  rw [h1, gm_add, gm_dbl]
  split
  · rw [gm_one]
  · rw [gm_zero]

theorem sum7 (a b : UInt8) (w : World) : Calls Try.prog 55 #[dig a, dig b] w fun e w' => e = .returned (dig (a ^^^ b)) ∧ w' = w := by
  have ha := a.toNat_lt
  have hb := b.toNat_lt
  go_enter Try.func55, Try.ntmps55
  go_wp2_with fail
  refine (unlike_any a.toNat b.toNat _ (by omega) (by omega)).mono ?_
  rintro e w1 ⟨rfl, rfl⟩
  go_wp2_with fail
  go_ret
  exact ⟨ret_int (by rw [UInt8.toNat_xor]), rfl⟩
theorem double7 (a : UInt8) (w : World) : Calls Try.prog 75 #[dig a] w fun e w' => e = .returned (dig (dblU a)) ∧ w' = w := by
  have ha := a.toNat_lt
  have Hd := Lib.hid (dblU_nat a)
  by_cases h : 2 * a.toNat < 256
  · go_enter Try.func75, Try.ntmps75
    go_wp2_with fail
    go_ret
    refine ⟨ret_int ?_, rfl⟩
    rw [Hd.out, dbl, if_pos h]
    omega
  · have e1 : 2 * (a.toNat : Int) - 256 = ((UInt8.ofNat (2 * a.toNat - 256)).toNat : Int) := by
      rw [UInt8.toNat_ofNat']
      omega
    have H1 := Lib.hid e1
    clear e1
    have Hr := Lib.hid (show dblU a = UInt8.ofNat (2 * a.toNat - 256) ^^^ 27 by
      apply u8_ext
      rw [dblU_nat, dbl, if_neg h, UInt8.toNat_xor, UInt8.toNat_ofNat', Nat.mod_eq_of_lt (by omega)]
      rfl)
    go_enter Try.func75, Try.ntmps75
    go_wp2_with fail
    rw [H1.out]
    refine Calls.mono (by exact sum7 (UInt8.ofNat (2 * a.toNat - 256)) 27 w) ?_
    rintro e w1 ⟨rfl, rfl⟩
    go_wp2_with fail
    go_ret
    exact ⟨by rw [Hr.out]; rfl, rfl⟩
theorem digit7 (x : Int) (w : World) : Calls Try.prog 71 #[.int .i64 x] w fun e w' => e = .returned (.bool (decide (0 ≤ x) && decide (x ≤ 255))) ∧ w' = w := by
  by_cases h : 0 ≤ x
  · go_enter Try.func71, Try.ntmps71
    go_wp2_with fail
    go_ret
    exact ⟨by simp [h], rfl⟩
  · go_enter Try.func71, Try.ntmps71
    go_wp2_with fail
    go_ret
    exact ⟨by simp; omega, rfl⟩
theorem times7 (a b : UInt8) (w : World) : Calls Try.prog 56 #[dig a, dig b] w fun e w' => e = .returned (dig (gm a b)) ∧ w' = w := by
  have hb := b.toNat_lt
  go_enter Try.func56, Try.ntmps56
  go_wp2_with fail
  go_loopw [0, 1, 5] (fun av bv nv wr => ∃ (a' n' : UInt8) (b' : Nat), b' < 256 ∧ av = dig a' ∧ bv = .int .i64 (b' : Nat) ∧ nv = dig n' ∧ n' ^^^ gm a' (UInt8.ofNat b') = gm a b ∧ wr = w) (fun _ bv _ _ => (intOf bv).toNat)
  case atStart => exact ⟨a, 0, b.toNat, hb, rfl, rfl, rfl, by rw [zero_x]; simp, rfl⟩
  case round =>
    obtain ⟨a', n', b', hb', rfl, rfl, rfl, hg, rfl⟩ := hrel
    by_cases h0 : b' = 0
    · subst h0
      have Hg := Lib.hid (show n' = gm a b by rw [← hg]; simp [gm_zero])
      clear hg
      go_wp2_with fail
      go_ret
      exact ⟨by rw [← Hg.out]; rfl, rfl⟩
    · have hp : (0 : Int) < (b' : Int) := by omega
      have Hh := Lib.hid (gm_half a' b' hb')
      have Hg := Lib.hid hg
      obtain ⟨q, hqe⟩ : ∃ q, q = b' / 2 := ⟨_, rfl⟩
      have hq : (b' : Int) / 2 = (q : Int) := by omega
      have hq2 : IntKind.i64.wrap ((b' : Int) / 2) = (q : Int) := by rw [IntWalk.i64_in _ (by omega)]; omega
      have hq3 : (b' : Int).tdiv 2 = (q : Int) := by rw [Int.tdiv_eq_ediv_of_nonneg (by omega)]; omega
      rw [← hqe] at Hh
      have hqb : q < 256 := by omega
      have Hqe := Lib.hid hqe
      have hql : q < b' := by omega
      clear hqe
      clear hg
      by_cases h1 : b' % 2 = 1
      · have hr : (b' : Int).tmod 2 = 1 := by rw [Int.tmod_eq_emod_of_nonneg (by omega)]; omega
        rw [if_pos h1] at Hh
        go_wp2_with fail
        refine (sum7 n' a' _).mono ?_
        rintro e w1 ⟨rfl, rfl⟩
        go_wp2_with fail
        refine (double7 a' _).mono ?_
        rintro e w2 ⟨rfl, rfl⟩
        go_wp2_with fail
        go_roundw
        case rel => exact ⟨dblU a', n' ^^^ a', q, hqb, rfl, rfl, rfl, by rw [x_assoc, ← Hh.out]; exact Hg.out, by trivial⟩
        case measure => simp [intOf]; omega
      · have hr : (b' : Int).tmod 2 = 0 := by rw [Int.tmod_eq_emod_of_nonneg (by omega)]; omega
        rw [if_neg h1] at Hh
        go_wp2_with fail
        refine (double7 a' _).mono ?_
        rintro e w2 ⟨rfl, rfl⟩
        go_wp2_with fail
        go_roundw
        case rel => exact ⟨dblU a', n', q, hqb, rfl, rfl, rfl, by rw [← Hg.out, Hh.out, zero_x], by trivial⟩
        case measure => simp [intOf]; omega

theorem inv_unique {a x : UInt8} (ha : a ≠ 0) (h : gm a x = 1) : x = gi a := by
  have h2 := gm_gi a ha
  have h3 : gm (gi a) (gm a x) = gm (gi a) 1 := by rw [h]
  rw [← gm_assoc, gm_comm (gi a) a, h2, one_gm, gm_one] at h3
  exact h3
theorem inv7 (a : UInt8) (w : World) (ha : a ≠ 0) : Calls Try.prog 72 #[dig a] w fun e w' => e = .returned (.tuple #[dig (gi a), .bool true]) ∧ w' = w := by
  have h0 : a.toNat ≠ 0 := fun e => ha (UInt8.toNat_inj.1 e)
  have hl := a.toNat_lt
  have e1 : ((a.toNat : Int) == 0) = false := by simp; omega
  have hg := (gi a).toNat_lt
  have hg0 : 1 ≤ (gi a).toNat := by
    rcases Nat.eq_zero_or_pos (gi a).toNat with h | h
    · have e : gi a = 0 := UInt8.toNat_inj.1 h
      have := gm_gi a ha
      rw [e, gm_zero] at this
      cases this
    · exact h
  have Hu : Hid (∀ n : Nat, n < (gi a).toNat → (gm a (UInt8.ofNat n)).toNat ≠ 1) := Lib.hid fun n hn e => by
    have e2 : gm a (UInt8.ofNat n) = 1 := UInt8.toNat_inj.1 e
    have := congrArg UInt8.toNat (inv_unique ha e2)
    rw [UInt8.toNat_ofNat'] at this
    omega
  have Hy := Lib.hid (gm_gi a ha)
  obtain ⟨G, hG⟩ : ∃ G, G = (gi a).toNat := ⟨_, rfl⟩
  have HG := Lib.hid hG
  rw [← hG] at hg hg0 Hu
  clear hG ha
  go_enter Try.func72, Try.ntmps72
  go_wp2_with fail
  refine (digit7 (a.toNat : Int) _).mono ?_
  rintro e w1 ⟨rfl, rfl⟩
  rw [show (decide ((0 : Int) ≤ (a.toNat : Int)) && decide ((a.toNat : Int) ≤ 255)) = true by simp; omega]
  go_wp2_with fail
  go_loopw [4] (fun v wr => ∃ n : Nat, 1 ≤ n ∧ n ≤ G ∧ v = .int .i64 (n : Nat) ∧ wr = w1) (fun v _ => G - (intOf v).toNat)
  case atStart => exact ⟨1, by omega, hg0, rfl, rfl⟩
  case round =>
    obtain ⟨n, hn1, hn, rfl, rfl⟩ := hrel
    have hnu : ((UInt8.ofNat n).toNat : Int) = (n : Int) := by rw [UInt8.toNat_ofNat']; omega
    have Hnu := Lib.hid hnu
    clear hnu
    by_cases hlt : n < G
    · have hne := Hu.out n hlt
      have Ht := Lib.hid (times7 a (UInt8.ofNat n) wr)
      rw [show dig (UInt8.ofNat n) = .int .i64 (n : Int) by rw [dig, Hnu.out]] at Ht
      have hneI : (((gm a (UInt8.ofNat n)).toNat : Int) != 1) = true := by simp; omega
      generalize gm a (UInt8.ofNat n) = y at Ht hneI
      clear hne
      go_wp2_with fail
      refine Ht.out.mono ?_
      rintro e w2 ⟨rfl, rfl⟩
      go_wp2_with fail
      go_roundw
      case rel => exact ⟨n + 1, by omega, by omega, by go_num, by trivial⟩
      case measure => simp [intOf]; omega
    · obtain rfl : n = G := by omega
      have Ht := Lib.hid (times7 a (gi a) wr)
      rw [Hy.out, show dig (gi a) = .int .i64 (n : Int) by rw [dig, HG.out]] at Ht
      go_wp2_with fail
      refine Ht.out.mono ?_
      rintro e w2 ⟨rfl, rfl⟩
      go_wp2_with fail
      go_ret2
      exact ⟨by rw [show dig (gi a) = .int .i64 (n : Int) by rw [dig, HG.out]]; rfl, rfl⟩
end Go.Proofs.Ytidnlginjjgmjaa
