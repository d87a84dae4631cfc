/-
  Contracts of word.Join.
-/
import Derived.Test.YtkeeejkijbaooaaDoorGen
import Derived.Test.YtkeeejkijbaooaaDoorCut
namespace Go.Proofs.YtkeeejkijbaooaaDoor
open Go.RowKit
set_option linter.unusedVariables false

set_option maxHeartbeats 400000 in
set_option maxRecDepth 100000 in
theorem join_true (A : Option Addr) (n c : Nat) (xs : List Int) (w : World) (h : Rd w A (ints xs)) (hn : n = xs.length) (hl : xs.length ≤ 100000) (hw : wordsB xs = true) :
    Calls Tryd.prog 35 #[.slice A n c, .bool true] w fun e w' => e = .returned (.tuple #[.string (bs (joinL xs true)), .bool true]) ∧ Below w.heap.size w w' := by
  subst hn
  obtain ⟨m, hm⟩ : ∃ m, m = 4 * xs.length := ⟨_, rfl⟩
  have hq : (4 : Int) * (xs.length : Int) = (m : Int) := by omega
  have hmb : m ≤ 400000 := by omega
  have hmk := fun W => run_make_row' (P := Tryd.prog) 80 5 (.int .u8 0) 1 Tryd.underlying80 byte_info rfl .i64 .i64 m (by omega) (by omega) W
  have H := Lib.hid h
  have HW := Lib.hid hw
  have Hm := Lib.hid hm
  clear h hw hm
  go_enter Tryd.func35, Tryd.ntmps35
  go_wp2_with fail
  refine (is_any _ _ _ xs _ H.out rfl (by omega)).mono ?_
  rintro e w' ⟨rfl, rfl⟩
  rw [HW.out]
  go_wp2_with fail
  refine (places_true _).mono ?_
  rintro e w' ⟨rfl, rfl⟩
  go_wp2_with fail
  go_loopw [8, 20] (fun _ i wr => ∃ k : Nat, k ≤ m ∧ i = .int .i64 k ∧ wr.rowIs w.heap.size 5 m (fun j => .int .u8 (if j < k then joinB xs true j else 0 : Nat)) ∧ Below w.heap.size w wr) (fun _ i _ => m - (intOf i).toNat)
  case atStart =>
    refine ⟨0, Nat.zero_le _, rfl, ?_, (Below.refl _ _).alloc (Nat.le_refl _) _⟩
    exact (World.rowIs_made _ _ _ _).congr fun j _ => by simp
  case round =>
    obtain ⟨k, hk, rfl, hrow, hbel⟩ := hrel
    by_cases hlt : k < m
    · obtain ⟨q, hq'⟩ : ∃ q, q = k / 4 := ⟨_, rfl⟩
      obtain ⟨r, hr'⟩ : ∃ r, r = k % 4 := ⟨_, rfl⟩
      have hqn : q < xs.length := by have := Hm.out; omega
      obtain ⟨b, off, rfl, hc⟩ := (H.out.below hbel).int_at hqn
      have hx := wordsB_at HW.out hqn
      obtain ⟨x, hxe⟩ := Int.eq_ofNat_of_zero_le hx.1
      rw [hxe] at hc
      have hc0 := hrow.cell hlt
      have hf := hrow.frozen k
      have Hrow := Lib.hid hrow
      have Hbel := Lib.hid hbel
      have hr4 : r < 4 := by omega
      have hw1 : IntKind.i64.wrap ((k : Int) / 4) = (q : Int) := by rw [IntWalk.i64_in _ (by omega)]; omega
      have hw2 : (k : Int).tmod 4 = (r : Int) := by rw [Int.tmod_eq_emod_of_nonneg (by omega)]; omega
      have Hj := Lib.hid (show joinB xs true k = x >>> placeI true r % 256 by rw [joinB, ← hq', ← hr', hxe]; simp)
      have Hq' := Lib.hid hq'
      have Hr' := Lib.hid hr'
      have Hx := Lib.hid hxe
      clear hrow hbel hq' hr' hxe hx
      go_wp2_with fail
      go_still_tail 14, (by kernel_rfl)
      still_call (place_true r _ hr4)
      repeat still_step
      try refine wpStill_nil ?_
      have hpl := placeI_le true r hr4
      rw [shr_byte _ _ hpl, ← Hj.out]
      change wpList _ _ _ _ _ wr.drew
      clear hpl
      go_wp2
      go_roundw
      case rel =>
        refine ⟨k + 1, by omega, by go_num, ?_, (Hbel.out.setCell (Nat.le_refl _) _).drew⟩
        refine ((Hrow.out.set k _).drew).congr fun j _ => ?_
        by_cases hj : j = k
        · rw [if_pos hj, hj, if_pos (by omega)]
        · rw [if_neg hj]
          by_cases hj2 : j < k
          · rw [if_pos hj2, if_pos (by omega)]
          · rw [if_neg hj2, if_neg (by omega)]
      case measure => simp [intOf]; omega
    · obtain rfl : k = m := by omega
      have hrow2 : wr.rowIs w.heap.size 5 k (fun j => .int .u8 (((joinL xs true).getD j 0).toNat : Nat)) := by
        refine hrow.congr fun j hj => ?_
        rw [if_pos hj]
        have hj4 : j < 4 * xs.length := by rw [← Hm.out]; exact hj
        have hb : joinB xs true j < 256 := Nat.mod_lt _ (by omega)
        simp [joinL, hj4, Nat.mod_eq_of_lt hb]
      have hcv := run_convert_bytes_back (P := Tryd.prog) wr 80 9 5 ⟨w.heap.size, 0, none⟩ k (joinL xs true) Tryd.underlying80 Tryd.underlying5 Tryd.underlying9 (row_bytes hrow2 (by rw [joinL_length, Hm.out]))
      rw [joinL_length, ← Hm.out] at hcv
      have Hbel := Lib.hid hbel
      clear hrow hrow2 hbel
      go_wp2
      go_ret2
      exact ⟨rfl, Hbel.out⟩

set_option maxHeartbeats 400000 in
set_option maxRecDepth 100000 in
theorem join_false (A : Option Addr) (n c : Nat) (xs : List Int) (w : World) (h : Rd w A (ints xs)) (hn : n = xs.length) (hl : xs.length ≤ 100000) (hw : wordsB xs = true) :
    Calls Tryd.prog 35 #[.slice A n c, .bool false] w fun e w' => e = .returned (.tuple #[.string (bs (joinL xs false)), .bool true]) ∧ Below w.heap.size w w' := by
  subst hn
  obtain ⟨m, hm⟩ : ∃ m, m = 4 * xs.length := ⟨_, rfl⟩
  have hq : (4 : Int) * (xs.length : Int) = (m : Int) := by omega
  have hmb : m ≤ 400000 := by omega
  have hmk := fun W => run_make_row' (P := Tryd.prog) 80 5 (.int .u8 0) 1 Tryd.underlying80 byte_info rfl .i64 .i64 m (by omega) (by omega) W
  have H := Lib.hid h
  have HW := Lib.hid hw
  have Hm := Lib.hid hm
  clear h hw hm
  go_enter Tryd.func35, Tryd.ntmps35
  go_wp2_with fail
  refine (is_any _ _ _ xs _ H.out rfl (by omega)).mono ?_
  rintro e w' ⟨rfl, rfl⟩
  rw [HW.out]
  go_wp2_with fail
  refine (places_false _).mono ?_
  rintro e w' ⟨rfl, rfl⟩
  go_wp2_with fail
  go_loopw [8, 20] (fun _ i wr => ∃ k : Nat, k ≤ m ∧ i = .int .i64 k ∧ wr.rowIs w.heap.size 5 m (fun j => .int .u8 (if j < k then joinB xs false j else 0 : Nat)) ∧ Below w.heap.size w wr) (fun _ i _ => m - (intOf i).toNat)
  case atStart =>
    refine ⟨0, Nat.zero_le _, rfl, ?_, (Below.refl _ _).alloc (Nat.le_refl _) _⟩
    exact (World.rowIs_made _ _ _ _).congr fun j _ => by simp
  case round =>
    obtain ⟨k, hk, rfl, hrow, hbel⟩ := hrel
    by_cases hlt : k < m
    · obtain ⟨q, hq'⟩ : ∃ q, q = k / 4 := ⟨_, rfl⟩
      obtain ⟨r, hr'⟩ : ∃ r, r = k % 4 := ⟨_, rfl⟩
      have hqn : q < xs.length := by have := Hm.out; omega
      obtain ⟨b, off, rfl, hc⟩ := (H.out.below hbel).int_at hqn
      have hx := wordsB_at HW.out hqn
      obtain ⟨x, hxe⟩ := Int.eq_ofNat_of_zero_le hx.1
      rw [hxe] at hc
      have hc0 := hrow.cell hlt
      have hf := hrow.frozen k
      have Hrow := Lib.hid hrow
      have Hbel := Lib.hid hbel
      have hr4 : r < 4 := by omega
      have hw1 : IntKind.i64.wrap ((k : Int) / 4) = (q : Int) := by rw [IntWalk.i64_in _ (by omega)]; omega
      have hw2 : (k : Int).tmod 4 = (r : Int) := by rw [Int.tmod_eq_emod_of_nonneg (by omega)]; omega
      have Hj := Lib.hid (show joinB xs false k = x >>> placeI false r % 256 by rw [joinB, ← hq', ← hr', hxe]; simp)
      have Hq' := Lib.hid hq'
      have Hr' := Lib.hid hr'
      have Hx := Lib.hid hxe
      clear hrow hbel hq' hr' hxe hx
      go_wp2_with fail
      go_still_tail 14, (by kernel_rfl)
      still_call (place_false r _ hr4)
      repeat still_step
      try refine wpStill_nil ?_
      have hpl := placeI_le false r hr4
      rw [shr_byte _ _ hpl, ← Hj.out]
      change wpList _ _ _ _ _ wr.drew
      clear hpl
      go_wp2
      go_roundw
      case rel =>
        refine ⟨k + 1, by omega, by go_num, ?_, (Hbel.out.setCell (Nat.le_refl _) _).drew⟩
        refine ((Hrow.out.set k _).drew).congr fun j _ => ?_
        by_cases hj : j = k
        · rw [if_pos hj, hj, if_pos (by omega)]
        · rw [if_neg hj]
          by_cases hj2 : j < k
          · rw [if_pos hj2, if_pos (by omega)]
          · rw [if_neg hj2, if_neg (by omega)]
      case measure => simp [intOf]; omega
    · obtain rfl : k = m := by omega
      have hrow2 : wr.rowIs w.heap.size 5 k (fun j => .int .u8 (((joinL xs false).getD j 0).toNat : Nat)) := by
        refine hrow.congr fun j hj => ?_
        rw [if_pos hj]
        have hj4 : j < 4 * xs.length := by rw [← Hm.out]; exact hj
        have hb : joinB xs false j < 256 := Nat.mod_lt _ (by omega)
        simp [joinL, hj4, Nat.mod_eq_of_lt hb]
      have hcv := run_convert_bytes_back (P := Tryd.prog) wr 80 9 5 ⟨w.heap.size, 0, none⟩ k (joinL xs false) Tryd.underlying80 Tryd.underlying5 Tryd.underlying9 (row_bytes hrow2 (by rw [joinL_length, Hm.out]))
      rw [joinL_length, ← Hm.out] at hcv
      have Hbel := Lib.hid hbel
      clear hrow hrow2 hbel
      go_wp2
      go_ret2
      exact ⟨rfl, Hbel.out⟩
end Go.Proofs.YtkeeejkijbaooaaDoor
