/-
  Contracts of keyholeref02: the small functions, Pad, spread.
-/
import Derived.Test.YtkeeejkijbaooaaDoorR01b
import Derived.Test.YtkeeejkijbaooaaDoorSha2
import Derived.Test.YtkeeejkijbaooaaDoorPad
import Derived.Deep.RegionLaw
import Derived.Deep.RegionHeld3
import Derived.Deep.AppendLies
namespace Go.Proofs.YtkeeejkijbaooaaDoor
open Go.RowKit
set_option linter.unusedVariables false
set_option maxRecDepth 100000
set_option maxHeartbeats 600000

theorem xor0 {a : Int} (h : Wd a) : xorI 0 a = a := by
  obtain ⟨n, rfl, _⟩ := wd_nat h
  simp [xorI]
theorem xorL3 {a b c : Int} (h : Wd a) : xorL [a, b, c] = xorI (xorI a b) c := by
  show xorI (xorI (xorI 0 a) b) c = _
  rw [xor0 h]
theorem xorL2 {a b : Int} (h : Wd a) : xorL [a, b] = xorI a b := by
  show xorI (xorI 0 a) b = _
  rw [xor0 h]
theorem gb_below_own {W w1 : World} {B : Nat} {e : TypeId} {size : Nat} {v : Value} {n : Nat} {xs : List Value} (hg : W.grownBy w1 v.ownBlock) (ho : W.ownsRow B e size v n xs) (hB : B ≤ W.heap.size) : Below B W w1 :=
  ⟨hg.os, hg.tape, hg.output, hg.size, fun k hk => hg.block k (by omega) (fun e => by
    rcases ho.2 with ⟨hv, _⟩ | ⟨g1, cap1, cur, hv, hb, _⟩
    · rw [hv] at e; cases e
    · rw [hv] at e
      injection e with e
      simp only at e
      omega)⟩

theorem back2 (x n : Int) (w : World) (hx : Wd x) (h0 : 0 ≤ n) (h1 : n ≤ 32) : Calls Tryd.prog 100 #[.int .i64 x, .int .i64 n] w fun e w' => e = .returned (.int .i64 (rotI x (32 - n))) ∧ w = w' := by
  have HX := Lib.hid hx
  clear hx
  go_enter Tryd.func100, Tryd.ntmps100
  go_wp2_with fail
  refine (turned1 x (32 - n) _ HX.out (by omega) (by omega)).mono ?_
  rintro e w' ⟨rfl, rfl⟩
  go_wp2_with fail
  go_ret
  exact ⟨rfl, rfl⟩
theorem fall2' (x : Int) (n : Nat) (w : World) (hx : Wd x) (h1 : n ≤ 32) : Calls Tryd.prog 112 #[.int .i64 x, .int .i64 (n : Int)] w fun e w' => e = .returned (.int .i64 (fallI x n)) ∧ w = w' := by
  obtain ⟨m, rfl, hm⟩ := wd_nat hx
  clear hx
  go_enter Tryd.func112, Tryd.ntmps112
  go_wp2_with fail
  go_loop [0, 5] (fun v i => ∃ k : Nat, k ≤ n ∧ i = .int .i64 k ∧ v = .int .i64 (m / 2 ^ k : Nat)) (fun _ i => n - (intOf i).toNat)
  case atStart => exact ⟨0, by omega, rfl, by simp⟩
  case round =>
    obtain ⟨k, hk, rfl, rfl⟩ := hrel
    by_cases hlt : k < n
    · have hy : m / 2 ^ k ≤ m := Nat.div_le_self _ _
      have Hx := Lib.hid (show m / 2 ^ (k + 1) = m / 2 ^ k / 2 by rw [Nat.pow_succ, Nat.div_div_eq_div_mul])
      generalize m / 2 ^ k = y at hy Hx
      go_wp2_with fail
      go_round
      case rel => exact ⟨k + 1, by omega, by go_num, by rw [Hx.out]; go_num⟩
      case measure => simp [intOf]; omega
    · obtain rfl : k = n := by omega
      go_wp2_with fail
      go_ret
      exact ⟨ret_int (by rw [fallI]; simp), rfl⟩
theorem fall2 (x n : Int) (w : World) (hx : Wd x) (h0 : 0 ≤ n) (h1 : n ≤ 32) : Calls Tryd.prog 112 #[.int .i64 x, .int .i64 n] w fun e w' => e = .returned (.int .i64 (fallI x n)) ∧ w = w' := by
  obtain ⟨m, rfl⟩ := Int.eq_ofNat_of_zero_le h0
  exact fall2' x m w hx (by omega)
theorem three2 (a b c : Int) (w : World) (ha : Wd a) (hb : Wd b) (hc : Wd c) : Calls Tryd.prog 98 #[.int .i64 a, .int .i64 b, .int .i64 c] w fun e w' => e = .returned (.int .i64 (xorL [a, b, c])) ∧ w = w' := by
  rw [xorL3 ha]
  have HA := Lib.hid ha
  have HB := Lib.hid hb
  have HC := Lib.hid hc
  clear ha hb hc
  go_enter Tryd.func98, Tryd.ntmps98
  go_wp2_with fail
  refine (unlike1 a b _ HA.out HB.out).mono ?_
  rintro e w' ⟨rfl, rfl⟩
  go_wp2_with fail
  refine (unlike1 _ c _ (wd_xor HA.out HB.out) HC.out).mono ?_
  rintro e w' ⟨rfl, rfl⟩
  go_wp2_with fail
  go_ret
  exact ⟨rfl, rfl⟩
theorem addI2 (a b : Int) : addI [a, b] = (a + b) % 4294967296 := by simp [addI]
theorem add2 (A : Option Addr) (n c : Nat) (xs : List Int) (w : World) (h : Rd w A (ints xs)) (hn : n = xs.length) (hl : xs.length ≤ 1000) (hw : wordsB xs = true) :
    Calls Tryd.prog 99 #[.slice A n c] w fun e w' => e = .returned (.int .i64 (addI xs)) ∧ w = w' := by
  have HR := Lib.hid h
  have HN := Lib.hid hn
  have HW := Lib.hid hw
  have hn1 : n ≤ 1000 := by omega
  clear h hn hw
  go_enter Tryd.func99, Tryd.ntmps99
  go_wp2_with fail
  go_loop [3, 4] (fun s x => ∃ i : Nat, i ≤ n ∧ x = .int .i64 (i : Nat) ∧ s = .int .i64 (addI (xs.take i))) (fun _ x => n - (intOf x).toNat)
  case atStart => exact ⟨0, by omega, rfl, rfl⟩
  case round =>
    obtain ⟨i, hi, rfl, rfl⟩ := hrel
    by_cases hlt : i < n
    · have hil : i < xs.length := by rw [← HN.out]; exact hlt
      obtain ⟨b, off, hA, hc⟩ := HR.out.int_at (i := i) hil
      subst hA
      have hwd : Wd (xs.getD i 0) := wd_get (wd_all HW.out) i
      have hwa := wd_add (xs.take i)
      have Hsn := Lib.hid ((addI_snoc xs i hil).trans (addI2 _ _).symm)
      generalize xs.getD i 0 = x at hc hwd Hsn
      generalize addI (xs.take i) = y at hwa Hsn
      have hiI : (i : Int) < (n : Int) := by omega
      have HD := Lib.hid hwd
      have HA := Lib.hid hwa
      clear hwd hwa
      go_wp2_with fail
      refine (sum1 y x _ HA.out HD.out).mono ?_
      rintro e w1 ⟨rfl, rfl⟩
      go_wp2_with fail
      go_round
      case rel => exact ⟨i + 1, by omega, by go_num, by rw [Hsn.out]⟩
      case measure => simp [intOf]; omega
    · obtain rfl : i = n := by omega
      rw [show xs.take i = xs from List.take_of_length_le (by rw [HN.out]; exact Nat.le_refl _)]
      go_wp2_with fail
      go_ret
      exact ⟨rfl, rfl⟩

def pw8 (j : Nat) : Nat := 2 ^ (64 - 8 * j) / 256
theorem pw8_succ (j : Nat) (h : j < 8) : pw8 (j + 1) = pw8 j / 256 := by
  unfold pw8
  rw [show 64 - 8 * j = (64 - 8 * (j + 1)) + 8 by omega, Nat.pow_add]
  generalize 2 ^ (64 - 8 * (j + 1)) = q
  omega
theorem pw8_eq (j : Nat) (h : j < 8) : pw8 j = 2 ^ (56 - 8 * j) := by
  unfold pw8
  rw [show 64 - 8 * j = (56 - 8 * j) + 8 by omega, Nat.pow_add]
  generalize 2 ^ (56 - 8 * j) = q
  omega
theorem pad2 (n : Nat) (w : World) (hn : n ≤ 1000000000) :
    Calls Tryd.prog 73 #[.int .i64 (n : Int)] w fun e w' => e = .returned (.tuple #[.string (bs (padL n)), .bool true]) ∧ Below w.heap.size w w' := by
  have hz : padZ n ≤ 63 := by unfold padZ; omega
  go_enter Tryd.func73, Tryd.ntmps73
  go_wp2_with fail
  go_loopw [4] (fun v wr => ∃ (k g cap : Nat), 1 ≤ k ∧ k ≤ 1 + padZ n ∧ v = .slice (some ⟨g, 0, none⟩) k cap ∧ wr.ownsRow w.heap.size 5 1 v k (bytesV (128 :: List.replicate (k - 1) 0)) ∧ Below w.heap.size w wr) (fun v _ => 100 - lenOf v)
  case atStart => exact ⟨1, w.heap.size, 1, by omega, by omega, rfl, own_new (Nat.le_refl _) rfl (by unfold maxLen; omega), (Below.refl _ _).alloc (Nat.le_refl _) _⟩
  case round =>
    obtain ⟨k, g, cap, hk1, hk2, rfl, ho, hb⟩ := hrel
    have HO := Lib.hid ho
    clear ho
    by_cases hlt : k < 1 + padZ n
    · have hne : (((n : Int) + (k : Int) + 8) % 64 != 0) = true := by
        rw [bne_iff_ne]; unfold padZ at hlt; omega
      go_wp2_with (refine wpList_append_new (by rfl) (.tmp 21) (.tmp 22) 80 (by rfl) w.heap.size 5 (.int .u8 0) 1 1 Tryd.underlying80 uint8_info rfl (by omega) wr _ _ _ _ _ (by rfl) HO.out _ 1 1 (by rfl) (by rfl) (by rfl) (by rfl) (by omega) (by omega) (by omega) (by exact hb.size) ?_)
      intro g2 cap2 w2 ho2 hb2 _ _ _
      have HO2 := Lib.hid ho2
      clear ho2
      go_wp2_with fail
      go_roundw
      case rel =>
        refine ⟨k + 1, g2, cap2, by omega, by omega, rfl, ?_, hb.trans hb2⟩
        have := HO2.out
        rw [show bytesV (128 :: List.replicate (k - 1) 0) ++ [Value.int .u8 0] = bytesV (128 :: List.replicate (k + 1 - 1) 0) by
          rw [show k + 1 - 1 = (k - 1) + 1 by omega, List.replicate_succ']
          simp [bytesV]] at this
        exact this
      case measure => simp [lenOf]; omega
    · obtain rfl : k = 1 + padZ n := by omega
      have hne : (((n : Int) + ((1 + padZ n : Nat) : Int) + 8) % 64 != 0) = false := by
        rw [bne_eq_false_iff_eq]; unfold padZ; omega
      obtain ⟨k, hk⟩ : ∃ k, k = 1 + padZ n := ⟨_, rfl⟩
      rw [← hk] at hne HO ⊢
      have Hk := Lib.hid hk
      have hk64 : k ≤ 64 := by omega
      clear hk hk1 hk2 hlt
      go_wp2_with fail
      obtain ⟨wo, hwo⟩ : ∃ wo : World, wo = wr := ⟨_, rfl⟩
      rw [← hwo] at HO hb ⊢
      clear hwo
      go_loopw [4, 5, 6] (fun v p i wr => ∃ (j g cap : Nat), j ≤ 8 ∧ i = .int .i64 j ∧ p = .int .i64 (pw8 j : Nat) ∧ v = .slice (some ⟨g, 0, none⟩) (k + j) cap ∧ wr.ownsRow w.heap.size 5 1 v (k + j) (bytesV (128 :: List.replicate (k - 1) 0 ++ be8 (8 * n) j)) ∧ Below w.heap.size w wr) (fun _ _ i _ => 8 - (intOf i).toNat)
      case atStart => exact ⟨0, g, cap, by omega, rfl, rfl, rfl, by simpa [be8] using HO.out, hb⟩
      case round =>
        obtain ⟨j, g, cap, hj, rfl, rfl, rfl, ho, hb⟩ := hrel
        clear HO
        have HO := Lib.hid ho
        clear ho
        by_cases hlt : j < 8
        · have Hp1 := Lib.hid (pw8_succ j hlt)
          have hpe := pw8_eq j hlt
          have hp0 : 0 < pw8 j := by rw [hpe]; exact Nat.two_pow_pos _
          have hp9 : pw8 j ≤ 72057594037927936 := by
            rw [hpe]
            exact Nat.pow_le_pow_right (n := 2) (by omega) (show 56 - 8 * j ≤ 56 by omega)
          have Hby := Lib.hid (show (8 * (n : Int)) / ((pw8 j : Nat) : Int) % 256 = ((UInt8.ofNat ((8 * n) >>> (56 - 8 * j))).toNat : Int) by
            rw [← byte_shr, hpe]; simp)
          clear hpe
          generalize pw8 j = p at Hp1 hp0 hp9 Hby
          have hpne : ((p : Int) == 0) = false := by rw [beq_eq_false_iff_ne]; omega
          have hp1 : (1 : Int) ≤ (p : Int) := by omega
          go_wp2_with (refine wpList_append_new (by rfl) (.tmp 28) (.tmp 35) 80 (by rfl) w.heap.size 5 (.int .u8 0) 1 1 Tryd.underlying80 uint8_info rfl (by omega) wr _ _ _ _ _ (by rfl) HO.out _ 1 1 (by rfl) (by rfl) (by rfl) (by rfl) (by omega) (by omega) (by omega) (by exact hb.size) ?_)
          intro g2 cap2 w2 ho2 hb2 _ _ _
          have HO2 := Lib.hid ho2
          clear ho2
          go_wp2_with fail
          go_roundw
          case rel =>
            refine ⟨j + 1, g2, cap2, by omega, by go_num, by rw [Hp1.out]; go_num, by rw [Nat.add_assoc], ?_, hb.trans hb2⟩
            have := HO2.out
            rw [show bytesV (128 :: List.replicate (k - 1) 0 ++ be8 (8 * n) (j + 1)) = bytesV (128 :: List.replicate (k - 1) 0 ++ be8 (8 * n) j) ++ [Value.int .u8 ((UInt8.ofNat ((8 * n) >>> (56 - 8 * j))).toNat : Int)] by
              rw [be8, List.range_succ, List.map_append, ← be8]
              simp [bytesV]]
            rw [show k + (j + 1) = k + j + 1 by omega]
            rw [← Hby.out]
            rw [show (8 * (n : Int) / (p : Int)).tmod 256 % 256 = 8 * (n : Int) / (p : Int) % 256 by
              rw [Int.tmod_eq_emod_of_nonneg (Int.ediv_nonneg (by omega) (by omega)), Int.emod_emod_of_dvd _ (by decide)]] at this
            exact this
          case measure => simp [intOf]; omega
        · obtain rfl : j = 8 := by omega
          have hcv := conv_rd (own_rd HO.out) cap (k + 8) (by have := Hk.out; simp [be8]; omega)
          go_wp2_with fail
          go_ret2
          refine ⟨?_, hb⟩
          rw [padL, show padZ n = k - 1 by have := Hk.out; omega]
          rfl
end Go.Proofs.YtkeeejkijbaooaaDoor
