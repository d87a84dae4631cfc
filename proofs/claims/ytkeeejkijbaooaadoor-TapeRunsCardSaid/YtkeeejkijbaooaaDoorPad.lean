/-
  Contracts of digest.Start and digest.Pad.
-/
import Derived.Test.YtkeeejkijbaooaaDoorSha3
import Derived.Test.YtkeeejkijbaooaaDoorOwn
namespace Go.Proofs.YtkeeejkijbaooaaDoor
open Go.RowKit
set_option linter.unusedVariables false

def startL : List Int := [1779033703, 3144134277, 1013904242, 2773480762, 1359893119, 2600822924, 528734635, 1541459225]
theorem start_words : Words8 startL := by
  refine ⟨rfl, ?_⟩
  have h : startL.all (fun x => decide (0 ≤ x) && decide (x ≤ 4294967295)) = true := by decide +kernel
  intro x hx
  have := List.all_eq_true.1 h x hx
  simpa [Wd] using this
theorem start_any (w : World) : Calls Tryd.prog 37 #[] w fun e w' => e = .returned (.agg (ints startL).toArray) ∧ Below w.heap.size w w' := by
  go_enter Tryd.func37, Tryd.ntmps37
  go_wp2_with fail
  refine bodyPost_ret (v := .agg (ints startL).toArray) (by simp [results, Tryd.results37, go_sem, ints, startL]) rfl ⟨rfl, (Below.refl _ _).alloc (Nat.le_refl _) _⟩

/-- A number's eight bytes, the highest first. -/
def be8 (n : Nat) (k : Nat) : List UInt8 := (List.range k).map fun i => UInt8.ofNat (n >>> (56 - 8 * i))
/-- How many bytes 0 stand behind the first one. -/
def padZ (n : Nat) : Nat := (119 - n % 64) % 64
/-- What stands behind a text of n bytes. -/
def padL (n : Nat) : List UInt8 := 128 :: List.replicate (padZ n) 0 ++ be8 (8 * n) 8
theorem padL_len (n : Nat) : (padL n).length = 9 + padZ n := by simp [padL, be8]; omega

theorem u8_of (x : Int) (y : Nat) (h : x = y) : IntKind.u8.wrap x = ((UInt8.ofNat y).toNat : Int) := by
  subst h
  rw [IntKind.wrap_u8]
  simp

theorem byte_shr (m s : Nat) : ((m : Nat) : Int) / 2 ^ s % 256 = ((UInt8.ofNat (m >>> s)).toNat : Int) := by
  simp [Nat.shiftRight_eq_div_pow]
theorem shr_i64 (x s : Nat) (hx : x ≤ 9223372036854775807) (hs : s ≤ 63) : (x : Int) / 2 ^ min s 64 = ((x >>> s : Nat) : Int) := by
  rw [Nat.min_eq_left (by omega), Nat.shiftRight_eq_div_pow]
  simp

set_option maxHeartbeats 1000000 in
set_option maxRecDepth 100000 in
theorem pad_any (n : Nat) (w : World) (hn : n ≤ 1000000000) :
    Calls Tryd.prog 36 #[.int .i64 (n : Int)] w fun e w' => e = .returned (.tuple #[.string (bs (padL n)), .bool true]) ∧ Below w.heap.size w w' := by
  have hz : padZ n ≤ 63 := by unfold padZ; omega
  go_enter Tryd.func36, Tryd.ntmps36
  go_wp2_with fail
  go_loopw [4] (fun v wr => ∃ (k g cap : Nat), 1 ≤ k ∧ k ≤ 1 + padZ n ∧ v = .slice (some ⟨g, 0, none⟩) k cap ∧ wr.ownsRow w.heap.size 5 1 v k (bytesV (128 :: List.replicate (k - 1) 0)) ∧ Below w.heap.size w wr) (fun v _ => 100 - lenOf v)
  case atStart => exact ⟨1, w.heap.size, 1, by omega, by omega, rfl, own_new (Nat.le_refl _) rfl (by unfold maxLen; omega), (Below.refl _ _).alloc (Nat.le_refl _) _⟩
  case round =>
    obtain ⟨k, g, cap, hk1, hk2, rfl, ho, hb⟩ := hrel
    have HO := Lib.hid ho
    clear ho
    by_cases hlt : k < 1 + padZ n
    · have hne : (((n : Int) + (k : Int) + 8) % 64 != 0) = true := by
        rw [bne_iff_ne]; unfold padZ at hlt; omega
      go_wp2_with (refine wpList_append_new (by rfl) (.tmp 20) (.tmp 21) 80 (by rfl) w.heap.size 5 (.int .u8 0) 1 1 Tryd.underlying80 uint8_info rfl (by omega) wr _ _ _ _ _ (by rfl) HO.out _ 1 1 (by rfl) (by rfl) (by rfl) (by rfl) (by omega) (by omega) (by omega) (by exact hb.size) ?_)
      intro g2 cap2 w2 ho2 hb2 _ _ _
      have HO2 := Lib.hid ho2
      clear ho2
      go_wp2_with fail
      go_roundw
      case rel =>
        refine ⟨k + 1, g2, cap2, by omega, by omega, rfl, ?_, hb.trans hb2⟩
        have := HO2.out
        rw [show bytesV (128 :: List.replicate (k - 1) 0) ++ [Value.int .u8 0] = bytesV (128 :: List.replicate (k + 1 - 1) 0) by
          rw [show k + 1 - 1 = (k - 1) + 1 by omega, List.replicate_succ']
          simp [bytesV]] at this
        exact this
      case measure => simp [lenOf]; omega
    · obtain rfl : k = 1 + padZ n := by omega
      have hne : (((n : Int) + ((1 + padZ n : Nat) : Int) + 8) % 64 != 0) = false := by
        rw [bne_eq_false_iff_eq]; unfold padZ; omega
      obtain ⟨k, hk⟩ : ∃ k, k = 1 + padZ n := ⟨_, rfl⟩
      rw [← hk] at hne HO ⊢
      have Hk := Lib.hid hk
      have hk64 : k ≤ 64 := by omega
      clear hk hk1 hk2 hlt
      go_wp2_with fail
      obtain ⟨wo, hwo⟩ : ∃ wo : World, wo = wr := ⟨_, rfl⟩
      rw [← hwo] at HO hb ⊢
      clear hwo
      go_loopw [4, 23] (fun v i wr => ∃ (j g cap : Nat), j ≤ 8 ∧ i = .int .i64 j ∧ v = .slice (some ⟨g, 0, none⟩) (k + j) cap ∧ wr.ownsRow w.heap.size 5 1 v (k + j) (bytesV (128 :: List.replicate (k - 1) 0 ++ be8 (8 * n) j)) ∧ Below w.heap.size w wr) (fun _ i _ => 8 - (intOf i).toNat)
      case atStart => exact ⟨0, g, cap, by omega, rfl, rfl, by simpa [be8] using HO.out, hb⟩
      case round =>
        obtain ⟨j, g, cap, hj, rfl, rfl, ho, hb⟩ := hrel
        clear HO
        have HO := Lib.hid ho
        clear ho
        by_cases hlt : j < 8
        · go_wp2_with (refine wpList_append_new (by rfl) (.tmp 26) (.tmp 34) 80 (by rfl) w.heap.size 5 (.int .u8 0) 1 1 Tryd.underlying80 uint8_info rfl (by omega) wr _ _ _ _ _ (by rfl) HO.out _ 1 1 (by rfl) (by rfl) (by rfl) (by rfl) (by omega) (by omega) (by omega) (by exact hb.size) ?_)
          intro g2 cap2 w2 ho2 hb2 _ _ _
          have HO2 := Lib.hid ho2
          clear ho2
          go_wp2_with fail
          go_roundw
          case rel =>
            refine ⟨j + 1, g2, cap2, by omega, by go_num, by rw [Nat.add_assoc], ?_, hb.trans hb2⟩
            have := HO2.out
            rw [show bytesV (128 :: List.replicate (k - 1) 0 ++ be8 (8 * n) (j + 1)) = bytesV (128 :: List.replicate (k - 1) 0 ++ be8 (8 * n) j) ++ [Value.int .u8 ((UInt8.ofNat ((8 * n) >>> (56 - 8 * j))).toNat : Int)] by
              rw [be8, List.range_succ, List.map_append, ← be8]
              simp [bytesV]]
            rw [show k + (j + 1) = k + j + 1 by omega]
            rw [← byte_shr]
            exact this
          case measure => simp [intOf]; omega
        · obtain rfl : j = 8 := by omega
          have hcv := conv_rd (own_rd HO.out) cap (k + 8) (by have := Hk.out; simp [be8]; omega)
          go_wp2_with fail
          go_ret2
          refine ⟨?_, hb⟩
          rw [padL, show padZ n = k - 1 by have := Hk.out; omega]
          rfl
end Go.Proofs.YtkeeejkijbaooaaDoor
