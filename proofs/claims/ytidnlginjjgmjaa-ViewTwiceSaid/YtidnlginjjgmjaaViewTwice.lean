/-
  The walk of the law ViewTwice.
-/
import Derived.Test.YtidnlginjjgmjaaViews
namespace Go.Proofs.Ytidnlginjjgmjaa
open Go.RowKit
set_option linter.unusedVariables false
set_option maxRecDepth 100000
set_option maxHeartbeats 2000000

theorem frontL_len (n : Nat) (l : List UInt8) : (frontL n l).length = l.length := by
  unfold frontL
  split
  · rfl
  · simp; omega
theorem frontL_take (n m : Nat) (l : List UInt8) (h : m ≤ n) : (frontL n l).take m = l.take m := by
  unfold frontL
  split
  · rfl
  · rw [List.take_append_of_le_length (by simp; omega), List.take_take, Nat.min_eq_left h]
theorem frontL_twice (n : Nat) (l : List UInt8) : frontL n (frontL n l) = frontL n l := by
  by_cases h : l.length ≤ n
  · rw [frontL, if_pos (by rw [frontL_len]; exact h)]
  · rw [frontL, if_neg (by rw [frontL_len]; exact h), frontL_take n n l (Nat.le_refl _), frontL_len, frontL, if_neg h]
theorem frontL_at (n i : Nat) (l : List UInt8) (hi : i < l.length) (h : n ≤ i) : (frontL n l).getD i 0 = 0 := by
  rw [frontL, if_neg (by omega), List.getD_eq_getElem?_getD, List.getElem?_append_right (by simp; omega)]
  have : i - min n l.length < l.length - n := by omega
  simp [this]

theorem viewTwice_law (a0 : ByteArray) (w0 : a0.size ≤ maxLen) (w : World) :
    Calls Try.prog 4 #[.string a0] w fun e w' => e = .returned (.bool true) ∧ Below w.heap.size w w' := by
  by_cases hbig : 5000 < a0.size
  · have d1 : decide ((5000 : Int) < (a0.size : Int)) = true := by simp; omega
    clear w0 hbig
    go_enter Try.func4, Try.ntmps4
    go_wp2_with fail
    go_ret
    exact ⟨rfl, Below.refl _ _⟩
  have d1 : decide ((5000 : Int) < (a0.size : Int)) = false := by simp; omega
  have hsz : a0.size ≤ 5000 := by omega
  clear w0 hbig
  obtain ⟨n12, hn12⟩ : ∃ n, n = min a0.size 12 := ⟨_, rfl⟩
  obtain ⟨n8, hn8⟩ : ∃ n, n = min a0.size 8 := ⟨_, rfl⟩
  have m12 : min (a0.size : Int) 12 = (n12 : Int) := by omega
  have m8 : min (a0.size : Int) 8 = (n8 : Int) := by omega
  have l12 : (n12 : Int) ≤ (a0.size : Int) := by omega
  have l8 : (n8 : Int) ≤ (a0.size : Int) := by omega
  obtain ⟨a, ha⟩ : ∃ a, a = bs (frontL 12 a0.data.toList) := ⟨_, rfl⟩
  obtain ⟨b, hb⟩ : ∃ b, b = bs (frontL 8 a0.data.toList) := ⟨_, rfl⟩
  have az : a.size = a0.size := by rw [ha, bs_size, frontL_len, len_data]
  have bz : b.size = a0.size := by rw [hb, bs_size, frontL_len, len_data]
  have ax : a.extract 0 n12 = a0.extract 0 n12 := by
    rw [extract_bs, extract_bs, ha, bs_data, frontL_take 12 n12 _ (by omega)]
  have bx : b.extract 0 n8 = a0.extract 0 n8 := by
    rw [extract_bs, extract_bs, hb, bs_data, frontL_take 8 n8 _ (by omega)]
  have Haa := Lib.hid (show bs (frontL 12 a.data.toList) = a by rw [ha, bs_data, frontL_twice])
  have Hbb := Lib.hid (show bs (frontL 8 b.data.toList) = b by rw [hb, bs_data, frontL_twice])
  have Ha0 : Hid (∀ i (h : i < a.size), 12 ≤ i → a[i] = 0) := Lib.hid fun i h h12 => by
    rw [str_at a i h, ha, bs_data]
    exact frontL_at 12 i _ (by rw [len_data]; omega) h12
  have Hb0 : Hid (∀ i (h : i < b.size), 12 ≤ i → b[i] = 0) := Lib.hid fun i h h12 => by
    rw [str_at b i h, hb, bs_data]
    exact frontL_at 8 i _ (by rw [len_data]; omega) (by omega)
  have Ha := Lib.hid ha
  have Hb := Lib.hid hb
  have AS := Lib.hid az
  have BS := Lib.hid bz
  have Aw := Lib.hid (show a.size ≤ 1000000 by omega)
  have Bw := Lib.hid (show b.size ≤ 1000000 by omega)
  clear hn12 hn8 ha hb az bz
  go_enter Try.func4, Try.ntmps4
  go_wp2_with fail
  refine (block_any a0 _ (by omega)).mono ?_
  rintro e w1 ⟨rfl, hb1⟩
  rw [← Ha.out]
  go_wp2_with fail
  refine (frame_any a0 _ (by omega)).mono ?_
  rintro e w2 ⟨rfl, hb2⟩
  rw [← Hb.out]
  replace hb2 := Below.chain hb1 hb2
  clear hb1
  go_wp2_with fail
  have d2 : ((a.size : Int) != (a0.size : Int)) = false := by rw [AS.out]; simp
  have d3 : ((b.size : Int) != (a0.size : Int)) = false := by rw [BS.out]; simp
  have l12a : (n12 : Int) ≤ (a.size : Int) := by rw [AS.out]; exact l12
  have l8b : (n8 : Int) ≤ (b.size : Int) := by rw [BS.out]; exact l8
  go_quiet (fail)
  rename_i nq
  have HB := below_drewN hb2 nq
  generalize w2.drewN nq = w3 at HB ⊢
  go_wp2_with fail
  clear d2 d3 l12a l8b ax bx
  go_loopw [7] (fun x wr => ∃ i : Nat, 12 ≤ i ∧ i ≤ max 12 a0.size ∧ x = .int .i64 (i : Nat) ∧ Below w.heap.size w wr) (fun x _ => a0.size - (intOf x).toNat)
  case atStart => exact ⟨12, by omega, by omega, rfl, HB⟩
  case round =>
    obtain ⟨i, hi12, hi, rfl, hW⟩ := hrel
    by_cases hlt : i < a0.size
    · have hiA : i < a.size := by rw [AS.out]; exact hlt
      have hiB : i < b.size := by rw [BS.out]; exact hlt
      have ea := Ha0.out i hiA hi12
      have eb := Hb0.out i hiB hi12
      have iA : (i : Int) < (a.size : Int) := by omega
      have iB : (i : Int) < (b.size : Int) := by omega
      have i0 : (i : Int) < (a0.size : Int) := by omega
      go_wp2_with fail
      go_roundw
      case rel => exact ⟨i + 1, by omega, by omega, by go_num, hW⟩
      case measure => simp [intOf]; omega
    · go_wp2_with fail
      refine (views_any _).mono ?_
      rintro e w4 ⟨rfl, hb4⟩
      replace hb4 := Below.chain hW hb4
      go_wp2_with fail
      refine (block_any a _ Aw.out).mono ?_
      rintro e w5 ⟨rfl, hb5⟩
      rw [Haa.out]
      replace hb5 := Below.chain hb4 hb5
      go_wp2_with fail
      refine (frame_any b _ Bw.out).mono ?_
      rintro e w6 ⟨rfl, hb6⟩
      rw [Hbb.out]
      replace hb6 := Below.chain hb5 hb6
      go_wp2_with fail
      go_ret
      exact ⟨by simp, hb6⟩
end Go.Proofs.Ytidnlginjjgmjaa
