/-
  Contracts of package word.
-/
import Derived.Test.YtkeeejkijbaooaaDoorGen
import Derived.Test.YtkeeejkijbaooaaDoorProg
import Derived.Test.YtkeeejkijbaooaaDoorBase
import Derived.Test.YtkeeejkijbaooaaDoorBits
namespace Go.Proofs.YtkeeejkijbaooaaDoor
open Go.RowKit

set_option maxHeartbeats 400000 in
theorem is_any (A : Option Addr) (n c : Nat) (xs : List Int) (w : World) (h : Rd w A (ints xs)) (hn : n = xs.length) (hl : xs.length ≤ 9223372036854775807) :
    Calls Tryd.prog 63 #[.slice A n c] w fun e w' => e = .returned (.bool (wordsB xs)) ∧ w = w' := by
  subst hn
  have H := Lib.hid h
  clear h
  go_enter Tryd.func63, Tryd.ntmps63
  go_wp2
  go_loop [4, 7] (fun x i => ∃ k : Nat, k ≤ xs.length ∧ i = .int .i64 k ∧ wordsB (xs.take k) = true) (fun _ i => xs.length - (intOf i).toNat)
  case atStart => exact ⟨0, Nat.zero_le _, rfl, rfl⟩
  case round =>
    obtain ⟨k, hk, rfl, hw⟩ := hrel
    have Hw := Lib.hid hw
    clear hw
    by_cases hlt : k < xs.length
    · obtain ⟨b, off, rfl, hc⟩ := H.out.int_at hlt
      have Hs := Lib.hid (wordsB_snoc xs k hlt)
      have Hf := Lib.hid (wordsB_of_not xs k hlt)
      generalize xs.getD k 0 = x at hc Hs Hf
      by_cases h0 : 0 ≤ x
      · by_cases h1 : x ≤ 4294967295
        · have Hx := Lib.hid (show wordB x = true by simp [wordB, h0, h1])
          go_wp2
          go_round
          case rel => exact ⟨k + 1, by omega, by go_num, by rw [Hs.out, Hw.out, Hx.out]; rfl⟩
          case measure => simp [intOf]; omega
        · have Hx := Lib.hid (show wordB x = false by simp [wordB, h1])
          go_wp2
          go_ret
          exact ⟨ret_bool (Hf.out Hx.out).symm, rfl⟩
      · have Hx := Lib.hid (show wordB x = false by simp [wordB, h0])
        go_wp2
        go_ret
        exact ⟨ret_bool (Hf.out Hx.out).symm, rfl⟩
    · go_wp2
      go_ret
      exact ⟨ret_bool (by rw [← Hw.out, List.take_of_length_le (by omega)]), rfl⟩


set_option maxHeartbeats 400000 in
theorem xor_any (a b : Int) (w : World) (h : wordsB [a, b] = true) :
    Calls Tryd.prog 87 #[.int .i64 a, .int .i64 b] w fun e w' => e = .returned (.tuple #[.int .i64 (xorI a b), .bool true]) ∧ Below w.heap.size w w' := by
  have hx := xor_word a b h
  have H := Lib.hid h
  clear h
  go_enter Tryd.func87, Tryd.ntmps87
  go_wp2_with fail
  refine (is_any _ _ _ [a, b] _ (rd_new w _ _) rfl (by simp)).mono ?_
  rintro e w' ⟨rfl, rfl⟩
  rw [H.out]
  go_wp2_with fail
  go_ret2
  exact ⟨rfl, (Below.refl _ _).alloc (Nat.le_refl _) _⟩
set_option maxHeartbeats 400000 in
theorem and_any (a b : Int) (w : World) (h : wordsB [a, b] = true) :
    Calls Tryd.prog 92 #[.int .i64 a, .int .i64 b] w fun e w' => e = .returned (.tuple #[.int .i64 (andI a b), .bool true]) ∧ Below w.heap.size w w' := by
  have hx := and_word a b h
  have H := Lib.hid h
  clear h
  go_enter Tryd.func92, Tryd.ntmps92
  go_wp2_with fail
  refine (is_any _ _ _ [a, b] _ (rd_new w _ _) rfl (by simp)).mono ?_
  rintro e w' ⟨rfl, rfl⟩
  rw [H.out]
  go_wp2_with fail
  go_ret2
  exact ⟨rfl, (Below.refl _ _).alloc (Nat.le_refl _) _⟩

set_option maxHeartbeats 400000 in
theorem add_any (A : Option Addr) (n c : Nat) (xs : List Int) (w : World) (h : Rd w A (ints xs)) (hn : n = xs.length) (hl : xs.length ≤ 9223372036854775807) (hw : wordsB xs = true) :
    Calls Tryd.prog 34 #[.slice A n c] w fun e w' => e = .returned (.tuple #[.int .i64 (addI xs), .bool true]) ∧ w = w' := by
  subst hn
  have H := Lib.hid h
  have HW := Lib.hid hw
  clear h hw
  go_enter Tryd.func34, Tryd.ntmps34
  go_wp2_with fail
  refine (is_any _ _ _ xs _ H.out rfl hl).mono ?_
  rintro e w' ⟨rfl, rfl⟩
  rw [HW.out]
  go_wp2_with fail
  go_loop [4, 6, 12] (fun s x i => ∃ k : Nat, k ≤ xs.length ∧ i = .int .i64 k ∧ s = .int .i64 (addI (xs.take k))) (fun _ _ i => xs.length - (intOf i).toNat)
  case atStart => exact ⟨0, Nat.zero_le _, rfl, rfl⟩
  case round =>
    obtain ⟨k, hk, rfl, rfl⟩ := hrel
    by_cases hlt : k < xs.length
    · obtain ⟨b, off, rfl, hc⟩ := H.out.int_at hlt
      have Hs := Lib.hid (addI_snoc xs k hlt)
      have hr := addI_range (xs.take k)
      have hx := wordsB_at HW.out hlt
      generalize xs.getD k 0 = x at hc Hs hx
      generalize addI (xs.take k) = y at Hs hr
      have ha := and_max (y + x) (by omega) (by omega)
      go_wp2
      go_round
      case rel => exact ⟨k + 1, by omega, by go_num, by rw [Hs.out]⟩
      case measure => simp [intOf]; omega
    · have He := Lib.hid (show xs.take k = xs from List.take_of_length_le (by omega))
      go_wp2
      go_ret2
      exact ⟨by rw [He.out]; rfl, rfl⟩

set_option maxHeartbeats 400000 in
theorem rotl_any (x n : Int) (w : World) (hx0 : 0 ≤ x) (hx1 : x ≤ 4294967295) (hn0 : 0 ≤ n) (hn1 : n ≤ 32) :
    Calls Tryd.prog 109 #[.int .u32 x, .int .i64 n] w fun e w' => e = .returned (.int .u32 (rotI x n)) ∧ w = w' := by
  obtain ⟨x, rfl⟩ := Int.eq_ofNat_of_zero_le hx0
  obtain ⟨n, rfl⟩ := Int.eq_ofNat_of_zero_le hn0
  have Hr := Lib.hid (show rotI x n = (((x <<< (n % 32)) % 4294967296 ||| x >>> (32 - n % 32) : Nat) : Int) from by simp [rotI])
  have ha := and_31 n (by omega)
  have hs : n % 32 < 32 := by omega
  generalize n % 32 = s at *
  go_enter Tryd.func109, Tryd.ntmps109
  go_wp2
  go_ret
  refine ⟨ret_int ?_, rfl⟩
  rw [Hr.out]
  have h2 : x >>> (32 - s) < 4294967296 := by
    have := Nat.shiftRight_le x (32 - s)
    omega
  rw [← or_u32 _ _ (by omega) h2, Nat.shiftLeft_eq, Nat.shiftRight_eq_div_pow]
  simp

set_option maxHeartbeats 400000 in
theorem rot_any (x n : Int) (w : World) (hx : wordsB [x] = true) (hn0 : 0 ≤ n) (hn1 : n ≤ 32) :
    Calls Tryd.prog 88 #[.int .i64 x, .int .i64 n] w fun e w' => e = .returned (.tuple #[.int .i64 (rotI x n), .bool true]) ∧ Below w.heap.size w w' := by
  have hr : 0 ≤ x ∧ x ≤ 4294967295 := by simpa [wordsB, wordB] using hx
  have hb : 0 ≤ rotI x n ∧ rotI x n ≤ 4294967295 := rotI_range x n hr.1 hr.2
  have H := Lib.hid hx
  clear hx
  go_enter Tryd.func88, Tryd.ntmps88
  go_wp2_with fail
  refine (is_any _ _ _ [x] _ (rd_new w _ _) rfl (by simp)).mono ?_
  rintro e w' ⟨rfl, rfl⟩
  rw [H.out]
  go_wp2_with fail
  refine (rotl_any _ _ _ (by omega) (by omega) (by omega) (by omega)).mono ?_
  rintro e w' ⟨rfl, rfl⟩
  go_wp2_with fail
  go_ret2
  exact ⟨rfl, (Below.refl _ _).alloc (Nat.le_refl _) _⟩

theorem is_b (A : Option Addr) (n c : Nat) (xs : List Int) (w : World) (h : Rd w A (ints xs)) (hn : n = xs.length) (hl : xs.length ≤ 9223372036854775807) :
    Calls Tryd.prog 63 #[.slice A n c] w fun e w' => e = .returned (.bool (wordsB xs)) ∧ Below w.heap.size w w' :=
  (is_any A n c xs w h hn hl).mono fun _ _ h => ⟨h.1, below_of_eq h.2⟩
theorem add_b (A : Option Addr) (n c : Nat) (xs : List Int) (w : World) (h : Rd w A (ints xs)) (hn : n = xs.length) (hl : xs.length ≤ 9223372036854775807) (hw : wordsB xs = true) :
    Calls Tryd.prog 34 #[.slice A n c] w fun e w' => e = .returned (.tuple #[.int .i64 (addI xs), .bool true]) ∧ Below w.heap.size w w' :=
  (add_any A n c xs w h hn hl hw).mono fun _ _ h => ⟨h.1, below_of_eq h.2⟩
end Go.Proofs.YtkeeejkijbaooaaDoor
