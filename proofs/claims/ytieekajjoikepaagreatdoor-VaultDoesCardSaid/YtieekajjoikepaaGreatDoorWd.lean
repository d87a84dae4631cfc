/-
  Contracts of package word.
  Contracts of word.Cut and what it calls.
  Contracts of word.Join.
  Arrays in memory, words: small facts.
  A whole array stored into a block that is known whole: the world behind it by its facts alone.
-/
import Derived.Test.YtieekajjoikepaaGreatDoorGen
import Derived.Test.YtieekajjoikepaaGreatDoorProg
import Derived.Test.YtieekajjoikepaaGreatDoorBase
import Derived.Test.YtieekajjoikepaaGreatDoorBits
import Derived.StillTailTactics
import Derived.Deep.OwnRows
import Derived.Deep.RegionHeld3
namespace Go.Proofs.YtieekajjoikepaaGreatDoor
/- Word -/
open Go.RowKit

set_option maxHeartbeats 400000 in
theorem is_any (A : Option Addr) (n c : Nat) (xs : List Int) (w : World) (h : Rd w A (ints xs)) (hn : n = xs.length) (hl : xs.length ≤ 9223372036854775807) :
    Calls Tryz.prog 74 #[.slice A n c] w fun e w' => e = .returned (.bool (wordsB xs)) ∧ w = w' := by
  subst hn
  have H := Lib.hid h
  clear h
  go_enter Tryz.func74, Tryz.ntmps74
  go_wp2
  go_loop [4, 7] (fun x i => ∃ k : Nat, k ≤ xs.length ∧ i = .int .i64 k ∧ wordsB (xs.take k) = true) (fun _ i => xs.length - (intOf i).toNat)
  case atStart => exact ⟨0, Nat.zero_le _, rfl, rfl⟩
  case round =>
    obtain ⟨k, hk, rfl, hw⟩ := hrel
    have Hw := Lib.hid hw
    clear hw
    by_cases hlt : k < xs.length
    · obtain ⟨b, off, rfl, hc⟩ := H.out.int_at hlt
      have Hs := Lib.hid (wordsB_snoc xs k hlt)
      have Hf := Lib.hid (wordsB_of_not xs k hlt)
      generalize xs.getD k 0 = x at hc Hs Hf
      by_cases h0 : 0 ≤ x
      · by_cases h1 : x ≤ 4294967295
        · have Hx := Lib.hid (show wordB x = true by simp [wordB, h0, h1])
          go_wp2
          go_round
          case rel => exact ⟨k + 1, by omega, by go_num, by rw [Hs.out, Hw.out, Hx.out]; rfl⟩
          case measure => simp [intOf]; omega
        · have Hx := Lib.hid (show wordB x = false by simp [wordB, h1])
          go_wp2
          go_ret
          exact ⟨ret_bool (Hf.out Hx.out).symm, rfl⟩
      · have Hx := Lib.hid (show wordB x = false by simp [wordB, h0])
        go_wp2
        go_ret
        exact ⟨ret_bool (Hf.out Hx.out).symm, rfl⟩
    · go_wp2
      go_ret
      exact ⟨ret_bool (by rw [← Hw.out, List.take_of_length_le (by omega)]), rfl⟩


set_option maxHeartbeats 400000 in
theorem xor_any (a b : Int) (w : World) (h : wordsB [a, b] = true) :
    Calls Tryz.prog 173 #[.int .i64 a, .int .i64 b] w fun e w' => e = .returned (.tuple #[.int .i64 (xorI a b), .bool true]) ∧ Below w.heap.size w w' := by
  have hx := xor_word a b h
  have H := Lib.hid h
  clear h
  go_enter Tryz.func173, Tryz.ntmps173
  go_wp2_with fail
  refine (is_any _ _ _ [a, b] _ (rd_new w _ _) rfl (by simp)).mono ?_
  rintro e w' ⟨rfl, rfl⟩
  rw [H.out]
  go_wp2_with fail
  go_ret2
  exact ⟨rfl, (Below.refl _ _).alloc (Nat.le_refl _) _⟩
set_option maxHeartbeats 400000 in
theorem and_any (a b : Int) (w : World) (h : wordsB [a, b] = true) :
    Calls Tryz.prog 175 #[.int .i64 a, .int .i64 b] w fun e w' => e = .returned (.tuple #[.int .i64 (andI a b), .bool true]) ∧ Below w.heap.size w w' := by
  have hx := and_word a b h
  have H := Lib.hid h
  clear h
  go_enter Tryz.func175, Tryz.ntmps175
  go_wp2_with fail
  refine (is_any _ _ _ [a, b] _ (rd_new w _ _) rfl (by simp)).mono ?_
  rintro e w' ⟨rfl, rfl⟩
  rw [H.out]
  go_wp2_with fail
  go_ret2
  exact ⟨rfl, (Below.refl _ _).alloc (Nat.le_refl _) _⟩

set_option maxHeartbeats 400000 in
theorem add_any (A : Option Addr) (n c : Nat) (xs : List Int) (w : World) (h : Rd w A (ints xs)) (hn : n = xs.length) (hl : xs.length ≤ 9223372036854775807) (hw : wordsB xs = true) :
    Calls Tryz.prog 139 #[.slice A n c] w fun e w' => e = .returned (.tuple #[.int .i64 (addI xs), .bool true]) ∧ w = w' := by
  subst hn
  have H := Lib.hid h
  have HW := Lib.hid hw
  clear h hw
  go_enter Tryz.func139, Tryz.ntmps139
  go_wp2_with fail
  refine (is_any _ _ _ xs _ H.out rfl hl).mono ?_
  rintro e w' ⟨rfl, rfl⟩
  rw [HW.out]
  go_wp2_with fail
  go_loop [4, 6, 12] (fun s x i => ∃ k : Nat, k ≤ xs.length ∧ i = .int .i64 k ∧ s = .int .i64 (addI (xs.take k))) (fun _ _ i => xs.length - (intOf i).toNat)
  case atStart => exact ⟨0, Nat.zero_le _, rfl, rfl⟩
  case round =>
    obtain ⟨k, hk, rfl, rfl⟩ := hrel
    by_cases hlt : k < xs.length
    · obtain ⟨b, off, rfl, hc⟩ := H.out.int_at hlt
      have Hs := Lib.hid (addI_snoc xs k hlt)
      have hr := addI_range (xs.take k)
      have hx := wordsB_at HW.out hlt
      generalize xs.getD k 0 = x at hc Hs hx
      generalize addI (xs.take k) = y at Hs hr
      have ha := and_max (y + x) (by omega) (by omega)
      go_wp2
      go_round
      case rel => exact ⟨k + 1, by omega, by go_num, by rw [Hs.out]⟩
      case measure => simp [intOf]; omega
    · have He := Lib.hid (show xs.take k = xs from List.take_of_length_le (by omega))
      go_wp2
      go_ret2
      exact ⟨by rw [He.out]; rfl, rfl⟩

set_option maxHeartbeats 400000 in
theorem rotl_any (x n : Int) (w : World) (hx0 : 0 ≤ x) (hx1 : x ≤ 4294967295) (hn0 : 0 ≤ n) (hn1 : n ≤ 32) :
    Calls Tryz.prog 186 #[.int .u32 x, .int .i64 n] w fun e w' => e = .returned (.int .u32 (rotI x n)) ∧ w = w' := by
  obtain ⟨x, rfl⟩ := Int.eq_ofNat_of_zero_le hx0
  obtain ⟨n, rfl⟩ := Int.eq_ofNat_of_zero_le hn0
  have Hr := Lib.hid (show rotI x n = (((x <<< (n % 32)) % 4294967296 ||| x >>> (32 - n % 32) : Nat) : Int) from by simp [rotI])
  have ha := and_31 n (by omega)
  have hs : n % 32 < 32 := by omega
  generalize n % 32 = s at *
  go_enter Tryz.func186, Tryz.ntmps186
  go_wp2
  go_ret
  refine ⟨ret_int ?_, rfl⟩
  rw [Hr.out]
  have h2 : x >>> (32 - s) < 4294967296 := by
    have := Nat.shiftRight_le x (32 - s)
    omega
  rw [← or_u32 _ _ (by omega) h2, Nat.shiftLeft_eq, Nat.shiftRight_eq_div_pow]
  simp

set_option maxHeartbeats 400000 in
theorem rot_any (x n : Int) (w : World) (hx : wordsB [x] = true) (hn0 : 0 ≤ n) (hn1 : n ≤ 32) :
    Calls Tryz.prog 174 #[.int .i64 x, .int .i64 n] w fun e w' => e = .returned (.tuple #[.int .i64 (rotI x n), .bool true]) ∧ Below w.heap.size w w' := by
  have hr : 0 ≤ x ∧ x ≤ 4294967295 := by simpa [wordsB, wordB] using hx
  have hb : 0 ≤ rotI x n ∧ rotI x n ≤ 4294967295 := rotI_range x n hr.1 hr.2
  have H := Lib.hid hx
  clear hx
  go_enter Tryz.func174, Tryz.ntmps174
  go_wp2_with fail
  refine (is_any _ _ _ [x] _ (rd_new w _ _) rfl (by simp)).mono ?_
  rintro e w' ⟨rfl, rfl⟩
  rw [H.out]
  go_wp2_with fail
  refine (rotl_any _ _ _ (by omega) (by omega) (by omega) (by omega)).mono ?_
  rintro e w' ⟨rfl, rfl⟩
  go_wp2_with fail
  go_ret2
  exact ⟨rfl, (Below.refl _ _).alloc (Nat.le_refl _) _⟩

theorem is_b (A : Option Addr) (n c : Nat) (xs : List Int) (w : World) (h : Rd w A (ints xs)) (hn : n = xs.length) (hl : xs.length ≤ 9223372036854775807) :
    Calls Tryz.prog 74 #[.slice A n c] w fun e w' => e = .returned (.bool (wordsB xs)) ∧ Below w.heap.size w w' :=
  (is_any A n c xs w h hn hl).mono fun _ _ h => ⟨h.1, below_of_eq h.2⟩
theorem add_b (A : Option Addr) (n c : Nat) (xs : List Int) (w : World) (h : Rd w A (ints xs)) (hn : n = xs.length) (hl : xs.length ≤ 9223372036854775807) (hw : wordsB xs = true) :
    Calls Tryz.prog 139 #[.slice A n c] w fun e w' => e = .returned (.tuple #[.int .i64 (addI xs), .bool true]) ∧ Below w.heap.size w w' :=
  (add_any A n c xs w h hn hl hw).mono fun _ _ h => ⟨h.1, below_of_eq h.2⟩

/- Cut -/
open Go.RowKit

theorem places_true (w : World) :
    Calls Tryz.prog 75 #[.bool true] w fun e w' => e = .returned (.func (.func 97) #[] #[]) ∧ w = w' := by
  go_enter Tryz.func75, Tryz.ntmps75
  go_wp2
  go_ret
  exact ⟨rfl, rfl⟩
theorem place_true (i : Nat) (w : World) (hi : i < 4) :
    Calls Tryz.prog 97 #[.int .i64 i] w fun e w' => e = .returned (.int .i64 (placeI true i : Nat)) ∧ w' = w := by
  go_enter Tryz.func97, Tryz.ntmps97
  go_wp2
  go_ret
  exact ⟨ret_int (by simp [placeI]; omega), rfl⟩

theorem places_false (w : World) :
    Calls Tryz.prog 75 #[.bool false] w fun e w' => e = .returned (.func (.func 98) #[] #[]) ∧ w = w' := by
  go_enter Tryz.func75, Tryz.ntmps75
  go_wp2
  go_ret
  exact ⟨rfl, rfl⟩
theorem place_false (i : Nat) (w : World) (hi : i < 4) :
    Calls Tryz.prog 98 #[.int .i64 i] w fun e w' => e = .returned (.int .i64 (placeI false i : Nat)) ∧ w' = w := by
  go_enter Tryz.func98, Tryz.ntmps98
  go_wp2
  go_ret
  exact ⟨ret_int (by simp [placeI]), rfl⟩

set_option maxHeartbeats 400000 in
set_option maxRecDepth 100000 in
theorem cut_true (s : ByteArray) (w : World) (h4 : s.size % 4 = 0) (hs : s.size ≤ 1000000) :
    Calls Tryz.prog 84 #[.string s, .bool true] w (CutPost s.data.toList true w) := by
  obtain ⟨n, hn⟩ : ∃ n, s.size = 4 * n := ⟨s.size / 4, by omega⟩
  have hl : s.data.toList.length = 4 * n := hn
  have hl4 : s.data.toList.length / 4 = n := by omega
  have hq : (s.size : Int) / 4 = (n : Int) := by omega
  have hq0 : (s.size : Int) % 4 = 0 := by omega
  have hnb : n ≤ 250000 := by omega
  have hmk := fun W => run_make_row' (P := Tryz.prog) 71 3 (.int .i64 0) 8 Tryz.underlying71 int_info rfl .i64 .i64 n (by omega) (by omega) W
  have Hn := Lib.hid hn
  have Hl := Lib.hid hl
  have Hl4 := Lib.hid hl4
  clear hn hl hl4
  go_enter Tryz.func84, Tryz.ntmps84
  go_wp2_with fail
  refine (places_true _).mono ?_
  rintro e w' ⟨rfl, rfl⟩
  go_wp2_with fail
  go_loopw [8, 21] (fun _ i wr => ∃ k : Nat, k ≤ s.size ∧ i = .int .i64 k ∧ wr.rowIs w.heap.size 3 n (fun j => .int .i64 (cutAcc s.data.toList true k j : Nat)) ∧ Below w.heap.size w wr) (fun _ i _ => s.size - (intOf i).toNat)
  case atStart =>
    refine ⟨0, Nat.zero_le _, rfl, ?_, (Below.refl _ _).alloc (Nat.le_refl _) _⟩
    exact World.rowIs_made _ _ _ _
  case round =>
    obtain ⟨k, hk, rfl, hrow, hbel⟩ := hrel
    by_cases hlt : k < s.size
    · have hc := hrow.cell (i := k / 4) (by have := Hn.out; omega)
      have hf := hrow.frozen (k / 4)
      have Hrow := Lib.hid hrow
      have Hbel := Lib.hid hbel
      obtain ⟨q, hq'⟩ : ∃ q, q = k / 4 := ⟨_, rfl⟩
      obtain ⟨r, hr'⟩ : ∃ r, r = k % 4 := ⟨_, rfl⟩
      have hqn : q < n := by have := Hn.out; omega
      have hr4 : r < 4 := by omega
      have hw1 : IntKind.i64.wrap ((k : Int) / 4) = (q : Int) := by rw [IntWalk.i64_in _ (by omega)]; omega
      have hw2 : (k : Int).tmod 4 = (r : Int) := by rw [Int.tmod_eq_emod_of_nonneg (by omega)]; omega
      rw [← hq'] at hc hf
      have Hq' := Lib.hid hq'
      have Hr' := Lib.hid hr'
      generalize hacc : cutAcc s.data.toList true k q = acc at hc
      have Hacc := Lib.hid hacc
      clear hrow hbel hq' hr' hacc
      go_wp2_with fail
      go_still_tail 16, (by kernel_rfl)
      still_call (place_true r _ hr4)
      repeat still_step
      try refine wpStill_nil ?_
      have hb := s[k].toNat_lt
      have ha : acc < 4294967296 := by rw [← Hacc.out]; exact cutAcc_lt _ _ _ _
      have hpl := placeI_le true r hr4
      have hv : bits .or .i64 (acc : Int) (IntKind.i64.wrap (IntKind.i64.wrap (s[k].toNat : Int) * 2 ^ min (placeI true r) 64)) = ((acc ||| s[k].toNat <<< placeI true r : Nat) : Int) := by
        rw [IntWalk.i64_in (s[k].toNat : Int) (by omega), shl_i64 _ _ hpl, or_i64 _ _ ha (shl_byte_lt _ _ hpl)]
      rw [hv]
      have Hv := Lib.hid (show (acc ||| s[k].toNat <<< placeI true r) = cutAcc s.data.toList true (k + 1) q by
        rw [cutAcc, if_pos Hq'.out.symm, Hacc.out, Hr'.out]
        simp [ByteArray.getElem_eq_getElem_data, hlt])
      clear hv hb hpl ha
      generalize (acc ||| s[k].toNat <<< placeI true r) = v at Hv ⊢
      change wpList _ _ _ _ _ wr.drew
      go_wp2
      go_roundw
      case rel =>
        refine ⟨k + 1, by omega, by go_num, ?_, (Hbel.out.setCell (Nat.le_refl _) _).drew⟩
        refine ((Hrow.out.set q _).drew).congr fun j _ => ?_
        by_cases hj : j = q
        · rw [if_pos hj, hj, Hv.out]
        · rw [if_neg hj, cutAcc, if_neg (by rw [← Hq'.out]; exact fun e => hj e.symm)]
      case measure => simp [intOf]; omega
    · have hke : k = s.size := by omega
      have Hrow := Lib.hid hrow
      have Hbel := Lib.hid hbel
      have Hke := Lib.hid hke
      clear hrow hbel hke
      go_wp2
      go_ret2
      refine ⟨w.heap.size, by rw [Hl4.out]; rfl, Nat.le_refl _, ?_, Hbel.out⟩
      rw [Hl4.out]
      have := Hrow.out
      rw [Hke.out] at this
      exact this

set_option maxHeartbeats 400000 in
set_option maxRecDepth 100000 in
theorem cut_false (s : ByteArray) (w : World) (h4 : s.size % 4 = 0) (hs : s.size ≤ 1000000) :
    Calls Tryz.prog 84 #[.string s, .bool false] w (CutPost s.data.toList false w) := by
  obtain ⟨n, hn⟩ : ∃ n, s.size = 4 * n := ⟨s.size / 4, by omega⟩
  have hl : s.data.toList.length = 4 * n := hn
  have hl4 : s.data.toList.length / 4 = n := by omega
  have hq : (s.size : Int) / 4 = (n : Int) := by omega
  have hq0 : (s.size : Int) % 4 = 0 := by omega
  have hnb : n ≤ 250000 := by omega
  have hmk := fun W => run_make_row' (P := Tryz.prog) 71 3 (.int .i64 0) 8 Tryz.underlying71 int_info rfl .i64 .i64 n (by omega) (by omega) W
  have Hn := Lib.hid hn
  have Hl := Lib.hid hl
  have Hl4 := Lib.hid hl4
  clear hn hl hl4
  go_enter Tryz.func84, Tryz.ntmps84
  go_wp2_with fail
  refine (places_false _).mono ?_
  rintro e w' ⟨rfl, rfl⟩
  go_wp2_with fail
  go_loopw [8, 21] (fun _ i wr => ∃ k : Nat, k ≤ s.size ∧ i = .int .i64 k ∧ wr.rowIs w.heap.size 3 n (fun j => .int .i64 (cutAcc s.data.toList false k j : Nat)) ∧ Below w.heap.size w wr) (fun _ i _ => s.size - (intOf i).toNat)
  case atStart =>
    refine ⟨0, Nat.zero_le _, rfl, ?_, (Below.refl _ _).alloc (Nat.le_refl _) _⟩
    exact World.rowIs_made _ _ _ _
  case round =>
    obtain ⟨k, hk, rfl, hrow, hbel⟩ := hrel
    by_cases hlt : k < s.size
    · have hc := hrow.cell (i := k / 4) (by have := Hn.out; omega)
      have hf := hrow.frozen (k / 4)
      have Hrow := Lib.hid hrow
      have Hbel := Lib.hid hbel
      obtain ⟨q, hq'⟩ : ∃ q, q = k / 4 := ⟨_, rfl⟩
      obtain ⟨r, hr'⟩ : ∃ r, r = k % 4 := ⟨_, rfl⟩
      have hqn : q < n := by have := Hn.out; omega
      have hr4 : r < 4 := by omega
      have hw1 : IntKind.i64.wrap ((k : Int) / 4) = (q : Int) := by rw [IntWalk.i64_in _ (by omega)]; omega
      have hw2 : (k : Int).tmod 4 = (r : Int) := by rw [Int.tmod_eq_emod_of_nonneg (by omega)]; omega
      rw [← hq'] at hc hf
      have Hq' := Lib.hid hq'
      have Hr' := Lib.hid hr'
      generalize hacc : cutAcc s.data.toList false k q = acc at hc
      have Hacc := Lib.hid hacc
      clear hrow hbel hq' hr' hacc
      go_wp2_with fail
      go_still_tail 16, (by kernel_rfl)
      still_call (place_false r _ hr4)
      repeat still_step
      try refine wpStill_nil ?_
      have hb := s[k].toNat_lt
      have ha : acc < 4294967296 := by rw [← Hacc.out]; exact cutAcc_lt _ _ _ _
      have hpl := placeI_le false r hr4
      have hv : bits .or .i64 (acc : Int) (IntKind.i64.wrap (IntKind.i64.wrap (s[k].toNat : Int) * 2 ^ min (placeI false r) 64)) = ((acc ||| s[k].toNat <<< placeI false r : Nat) : Int) := by
        rw [IntWalk.i64_in (s[k].toNat : Int) (by omega), shl_i64 _ _ hpl, or_i64 _ _ ha (shl_byte_lt _ _ hpl)]
      rw [hv]
      have Hv := Lib.hid (show (acc ||| s[k].toNat <<< placeI false r) = cutAcc s.data.toList false (k + 1) q by
        rw [cutAcc, if_pos Hq'.out.symm, Hacc.out, Hr'.out]
        simp [ByteArray.getElem_eq_getElem_data, hlt])
      clear hv hb hpl ha
      generalize (acc ||| s[k].toNat <<< placeI false r) = v at Hv ⊢
      change wpList _ _ _ _ _ wr.drew
      go_wp2
      go_roundw
      case rel =>
        refine ⟨k + 1, by omega, by go_num, ?_, (Hbel.out.setCell (Nat.le_refl _) _).drew⟩
        refine ((Hrow.out.set q _).drew).congr fun j _ => ?_
        by_cases hj : j = q
        · rw [if_pos hj, hj, Hv.out]
        · rw [if_neg hj, cutAcc, if_neg (by rw [← Hq'.out]; exact fun e => hj e.symm)]
      case measure => simp [intOf]; omega
    · have hke : k = s.size := by omega
      have Hrow := Lib.hid hrow
      have Hbel := Lib.hid hbel
      have Hke := Lib.hid hke
      clear hrow hbel hke
      go_wp2
      go_ret2
      refine ⟨w.heap.size, by rw [Hl4.out]; rfl, Nat.le_refl _, ?_, Hbel.out⟩
      rw [Hl4.out]
      have := Hrow.out
      rw [Hke.out] at this
      exact this

/- Join -/
open Go.RowKit
set_option linter.unusedVariables false

set_option maxHeartbeats 400000 in
set_option maxRecDepth 100000 in
theorem join_true (A : Option Addr) (n c : Nat) (xs : List Int) (w : World) (h : Rd w A (ints xs)) (hn : n = xs.length) (hl : xs.length ≤ 100000) (hw : wordsB xs = true) :
    Calls Tryz.prog 40 #[.slice A n c, .bool true] w fun e w' => e = .returned (.tuple #[.string (bs (joinL xs true)), .bool true]) ∧ Below w.heap.size w w' := by
  subst hn
  obtain ⟨m, hm⟩ : ∃ m, m = 4 * xs.length := ⟨_, rfl⟩
  have hq : (4 : Int) * (xs.length : Int) = (m : Int) := by omega
  have hmb : m ≤ 400000 := by omega
  have hmk := fun W => run_make_row' (P := Tryz.prog) 72 5 (.int .u8 0) 1 Tryz.underlying72 byte_info rfl .i64 .i64 m (by omega) (by omega) W
  have H := Lib.hid h
  have HW := Lib.hid hw
  have Hm := Lib.hid hm
  clear h hw hm
  go_enter Tryz.func40, Tryz.ntmps40
  go_wp2_with fail
  refine (is_any _ _ _ xs _ H.out rfl (by omega)).mono ?_
  rintro e w' ⟨rfl, rfl⟩
  rw [HW.out]
  go_wp2_with fail
  refine (places_true _).mono ?_
  rintro e w' ⟨rfl, rfl⟩
  go_wp2_with fail
  go_loopw [8, 20] (fun _ i wr => ∃ k : Nat, k ≤ m ∧ i = .int .i64 k ∧ wr.rowIs w.heap.size 5 m (fun j => .int .u8 (if j < k then joinB xs true j else 0 : Nat)) ∧ Below w.heap.size w wr) (fun _ i _ => m - (intOf i).toNat)
  case atStart =>
    refine ⟨0, Nat.zero_le _, rfl, ?_, (Below.refl _ _).alloc (Nat.le_refl _) _⟩
    exact (World.rowIs_made _ _ _ _).congr fun j _ => by simp
  case round =>
    obtain ⟨k, hk, rfl, hrow, hbel⟩ := hrel
    by_cases hlt : k < m
    · obtain ⟨q, hq'⟩ : ∃ q, q = k / 4 := ⟨_, rfl⟩
      obtain ⟨r, hr'⟩ : ∃ r, r = k % 4 := ⟨_, rfl⟩
      have hqn : q < xs.length := by have := Hm.out; omega
      obtain ⟨b, off, rfl, hc⟩ := (H.out.below hbel).int_at hqn
      have hx := wordsB_at HW.out hqn
      obtain ⟨x, hxe⟩ := Int.eq_ofNat_of_zero_le hx.1
      rw [hxe] at hc
      have hc0 := hrow.cell hlt
      have hf := hrow.frozen k
      have Hrow := Lib.hid hrow
      have Hbel := Lib.hid hbel
      have hr4 : r < 4 := by omega
      have hw1 : IntKind.i64.wrap ((k : Int) / 4) = (q : Int) := by rw [IntWalk.i64_in _ (by omega)]; omega
      have hw2 : (k : Int).tmod 4 = (r : Int) := by rw [Int.tmod_eq_emod_of_nonneg (by omega)]; omega
      have Hj := Lib.hid (show joinB xs true k = x >>> placeI true r % 256 by rw [joinB, ← hq', ← hr', hxe]; simp)
      have Hq' := Lib.hid hq'
      have Hr' := Lib.hid hr'
      have Hx := Lib.hid hxe
      clear hrow hbel hq' hr' hxe hx
      go_wp2_with fail
      go_still_tail 14, (by kernel_rfl)
      still_call (place_true r _ hr4)
      repeat still_step
      try refine wpStill_nil ?_
      have hpl := placeI_le true r hr4
      rw [shr_byte _ _ hpl, ← Hj.out]
      change wpList _ _ _ _ _ wr.drew
      clear hpl
      go_wp2
      go_roundw
      case rel =>
        refine ⟨k + 1, by omega, by go_num, ?_, (Hbel.out.setCell (Nat.le_refl _) _).drew⟩
        refine ((Hrow.out.set k _).drew).congr fun j _ => ?_
        by_cases hj : j = k
        · rw [if_pos hj, hj, if_pos (by omega)]
        · rw [if_neg hj]
          by_cases hj2 : j < k
          · rw [if_pos hj2, if_pos (by omega)]
          · rw [if_neg hj2, if_neg (by omega)]
      case measure => simp [intOf]; omega
    · obtain rfl : k = m := by omega
      have hrow2 : wr.rowIs w.heap.size 5 k (fun j => .int .u8 (((joinL xs true).getD j 0).toNat : Nat)) := by
        refine hrow.congr fun j hj => ?_
        rw [if_pos hj]
        have hj4 : j < 4 * xs.length := by rw [← Hm.out]; exact hj
        have hb : joinB xs true j < 256 := Nat.mod_lt _ (by omega)
        simp [joinL, hj4, Nat.mod_eq_of_lt hb]
      have hcv := run_convert_bytes_back (P := Tryz.prog) wr 72 9 5 ⟨w.heap.size, 0, none⟩ k (joinL xs true) Tryz.underlying72 Tryz.underlying5 Tryz.underlying9 (row_bytes hrow2 (by rw [joinL_length, Hm.out]))
      rw [joinL_length, ← Hm.out] at hcv
      have Hbel := Lib.hid hbel
      clear hrow hrow2 hbel
      go_wp2
      go_ret2
      exact ⟨rfl, Hbel.out⟩

set_option maxHeartbeats 400000 in
set_option maxRecDepth 100000 in
theorem join_false (A : Option Addr) (n c : Nat) (xs : List Int) (w : World) (h : Rd w A (ints xs)) (hn : n = xs.length) (hl : xs.length ≤ 100000) (hw : wordsB xs = true) :
    Calls Tryz.prog 40 #[.slice A n c, .bool false] w fun e w' => e = .returned (.tuple #[.string (bs (joinL xs false)), .bool true]) ∧ Below w.heap.size w w' := by
  subst hn
  obtain ⟨m, hm⟩ : ∃ m, m = 4 * xs.length := ⟨_, rfl⟩
  have hq : (4 : Int) * (xs.length : Int) = (m : Int) := by omega
  have hmb : m ≤ 400000 := by omega
  have hmk := fun W => run_make_row' (P := Tryz.prog) 72 5 (.int .u8 0) 1 Tryz.underlying72 byte_info rfl .i64 .i64 m (by omega) (by omega) W
  have H := Lib.hid h
  have HW := Lib.hid hw
  have Hm := Lib.hid hm
  clear h hw hm
  go_enter Tryz.func40, Tryz.ntmps40
  go_wp2_with fail
  refine (is_any _ _ _ xs _ H.out rfl (by omega)).mono ?_
  rintro e w' ⟨rfl, rfl⟩
  rw [HW.out]
  go_wp2_with fail
  refine (places_false _).mono ?_
  rintro e w' ⟨rfl, rfl⟩
  go_wp2_with fail
  go_loopw [8, 20] (fun _ i wr => ∃ k : Nat, k ≤ m ∧ i = .int .i64 k ∧ wr.rowIs w.heap.size 5 m (fun j => .int .u8 (if j < k then joinB xs false j else 0 : Nat)) ∧ Below w.heap.size w wr) (fun _ i _ => m - (intOf i).toNat)
  case atStart =>
    refine ⟨0, Nat.zero_le _, rfl, ?_, (Below.refl _ _).alloc (Nat.le_refl _) _⟩
    exact (World.rowIs_made _ _ _ _).congr fun j _ => by simp
  case round =>
    obtain ⟨k, hk, rfl, hrow, hbel⟩ := hrel
    by_cases hlt : k < m
    · obtain ⟨q, hq'⟩ : ∃ q, q = k / 4 := ⟨_, rfl⟩
      obtain ⟨r, hr'⟩ : ∃ r, r = k % 4 := ⟨_, rfl⟩
      have hqn : q < xs.length := by have := Hm.out; omega
      obtain ⟨b, off, rfl, hc⟩ := (H.out.below hbel).int_at hqn
      have hx := wordsB_at HW.out hqn
      obtain ⟨x, hxe⟩ := Int.eq_ofNat_of_zero_le hx.1
      rw [hxe] at hc
      have hc0 := hrow.cell hlt
      have hf := hrow.frozen k
      have Hrow := Lib.hid hrow
      have Hbel := Lib.hid hbel
      have hr4 : r < 4 := by omega
      have hw1 : IntKind.i64.wrap ((k : Int) / 4) = (q : Int) := by rw [IntWalk.i64_in _ (by omega)]; omega
      have hw2 : (k : Int).tmod 4 = (r : Int) := by rw [Int.tmod_eq_emod_of_nonneg (by omega)]; omega
      have Hj := Lib.hid (show joinB xs false k = x >>> placeI false r % 256 by rw [joinB, ← hq', ← hr', hxe]; simp)
      have Hq' := Lib.hid hq'
      have Hr' := Lib.hid hr'
      have Hx := Lib.hid hxe
      clear hrow hbel hq' hr' hxe hx
      go_wp2_with fail
      go_still_tail 14, (by kernel_rfl)
      still_call (place_false r _ hr4)
      repeat still_step
      try refine wpStill_nil ?_
      have hpl := placeI_le false r hr4
      rw [shr_byte _ _ hpl, ← Hj.out]
      change wpList _ _ _ _ _ wr.drew
      clear hpl
      go_wp2
      go_roundw
      case rel =>
        refine ⟨k + 1, by omega, by go_num, ?_, (Hbel.out.setCell (Nat.le_refl _) _).drew⟩
        refine ((Hrow.out.set k _).drew).congr fun j _ => ?_
        by_cases hj : j = k
        · rw [if_pos hj, hj, if_pos (by omega)]
        · rw [if_neg hj]
          by_cases hj2 : j < k
          · rw [if_pos hj2, if_pos (by omega)]
          · rw [if_neg hj2, if_neg (by omega)]
      case measure => simp [intOf]; omega
    · obtain rfl : k = m := by omega
      have hrow2 : wr.rowIs w.heap.size 5 k (fun j => .int .u8 (((joinL xs false).getD j 0).toNat : Nat)) := by
        refine hrow.congr fun j hj => ?_
        rw [if_pos hj]
        have hj4 : j < 4 * xs.length := by rw [← Hm.out]; exact hj
        have hb : joinB xs false j < 256 := Nat.mod_lt _ (by omega)
        simp [joinL, hj4, Nat.mod_eq_of_lt hb]
      have hcv := run_convert_bytes_back (P := Tryz.prog) wr 72 9 5 ⟨w.heap.size, 0, none⟩ k (joinL xs false) Tryz.underlying72 Tryz.underlying5 Tryz.underlying9 (row_bytes hrow2 (by rw [joinL_length, Hm.out]))
      rw [joinL_length, ← Hm.out] at hcv
      have Hbel := Lib.hid hbel
      clear hrow hrow2 hbel
      go_wp2
      go_ret2
      exact ⟨rfl, Hbel.out⟩

/- Arr -/
open Go.RowKit
set_option linter.unusedVariables false

/- Arr2 -/
open Go.RowKit
set_option linter.unusedVariables false

end Go.Proofs.YtieekajjoikepaaGreatDoor
