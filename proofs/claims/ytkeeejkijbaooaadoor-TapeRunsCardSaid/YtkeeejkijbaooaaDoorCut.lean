/-
  Contracts of word.Cut and what it calls.
-/
import Derived.Test.YtkeeejkijbaooaaDoorGen
import Derived.Test.YtkeeejkijbaooaaDoorWord
import Derived.StillTailTactics
import Derived.Deep.OwnRows
namespace Go.Proofs.YtkeeejkijbaooaaDoor
open Go.RowKit

theorem places_true (w : World) :
    Calls Tryd.prog 66 #[.bool true] w fun e w' => e = .returned (.func (.func 89) #[] #[]) ∧ w = w' := by
  go_enter Tryd.func66, Tryd.ntmps66
  go_wp2
  go_ret
  exact ⟨rfl, rfl⟩
theorem place_true (i : Nat) (w : World) (hi : i < 4) :
    Calls Tryd.prog 89 #[.int .i64 i] w fun e w' => e = .returned (.int .i64 (placeI true i : Nat)) ∧ w' = w := by
  go_enter Tryd.func89, Tryd.ntmps89
  go_wp2
  go_ret
  exact ⟨ret_int (by simp [placeI]; omega), rfl⟩

theorem places_false (w : World) :
    Calls Tryd.prog 66 #[.bool false] w fun e w' => e = .returned (.func (.func 90) #[] #[]) ∧ w = w' := by
  go_enter Tryd.func66, Tryd.ntmps66
  go_wp2
  go_ret
  exact ⟨rfl, rfl⟩
theorem place_false (i : Nat) (w : World) (hi : i < 4) :
    Calls Tryd.prog 90 #[.int .i64 i] w fun e w' => e = .returned (.int .i64 (placeI false i : Nat)) ∧ w' = w := by
  go_enter Tryd.func90, Tryd.ntmps90
  go_wp2
  go_ret
  exact ⟨ret_int (by simp [placeI]), rfl⟩

set_option maxHeartbeats 400000 in
set_option maxRecDepth 100000 in
theorem cut_true (s : ByteArray) (w : World) (h4 : s.size % 4 = 0) (hs : s.size ≤ 1000000) :
    Calls Tryd.prog 64 #[.string s, .bool true] w (CutPost s.data.toList true w) := by
  obtain ⟨n, hn⟩ : ∃ n, s.size = 4 * n := ⟨s.size / 4, by omega⟩
  have hl : s.data.toList.length = 4 * n := hn
  have hl4 : s.data.toList.length / 4 = n := by omega
  have hq : (s.size : Int) / 4 = (n : Int) := by omega
  have hq0 : (s.size : Int) % 4 = 0 := by omega
  have hnb : n ≤ 250000 := by omega
  have hmk := fun W => run_make_row' (P := Tryd.prog) 71 3 (.int .i64 0) 8 Tryd.underlying71 int_info rfl .i64 .i64 n (by omega) (by omega) W
  have Hn := Lib.hid hn
  have Hl := Lib.hid hl
  have Hl4 := Lib.hid hl4
  clear hn hl hl4
  go_enter Tryd.func64, Tryd.ntmps64
  go_wp2_with fail
  refine (places_true _).mono ?_
  rintro e w' ⟨rfl, rfl⟩
  go_wp2_with fail
  go_loopw [8, 21] (fun _ i wr => ∃ k : Nat, k ≤ s.size ∧ i = .int .i64 k ∧ wr.rowIs w.heap.size 3 n (fun j => .int .i64 (cutAcc s.data.toList true k j : Nat)) ∧ Below w.heap.size w wr) (fun _ i _ => s.size - (intOf i).toNat)
  case atStart =>
    refine ⟨0, Nat.zero_le _, rfl, ?_, (Below.refl _ _).alloc (Nat.le_refl _) _⟩
    exact World.rowIs_made _ _ _ _
  case round =>
    obtain ⟨k, hk, rfl, hrow, hbel⟩ := hrel
    by_cases hlt : k < s.size
    · have hc := hrow.cell (i := k / 4) (by have := Hn.out; omega)
      have hf := hrow.frozen (k / 4)
      have Hrow := Lib.hid hrow
      have Hbel := Lib.hid hbel
      obtain ⟨q, hq'⟩ : ∃ q, q = k / 4 := ⟨_, rfl⟩
      obtain ⟨r, hr'⟩ : ∃ r, r = k % 4 := ⟨_, rfl⟩
      have hqn : q < n := by have := Hn.out; omega
      have hr4 : r < 4 := by omega
      have hw1 : IntKind.i64.wrap ((k : Int) / 4) = (q : Int) := by rw [IntWalk.i64_in _ (by omega)]; omega
      have hw2 : (k : Int).tmod 4 = (r : Int) := by rw [Int.tmod_eq_emod_of_nonneg (by omega)]; omega
      rw [← hq'] at hc hf
      have Hq' := Lib.hid hq'
      have Hr' := Lib.hid hr'
      generalize hacc : cutAcc s.data.toList true k q = acc at hc
      have Hacc := Lib.hid hacc
      clear hrow hbel hq' hr' hacc
      go_wp2_with fail
      go_still_tail 16, (by kernel_rfl)
      still_call (place_true r _ hr4)
      repeat still_step
      try refine wpStill_nil ?_
      have hb := s[k].toNat_lt
      have ha : acc < 4294967296 := by rw [← Hacc.out]; exact cutAcc_lt _ _ _ _
      have hpl := placeI_le true r hr4
      have hv : bits .or .i64 (acc : Int) (IntKind.i64.wrap (IntKind.i64.wrap (s[k].toNat : Int) * 2 ^ min (placeI true r) 64)) = ((acc ||| s[k].toNat <<< placeI true r : Nat) : Int) := by
        rw [IntWalk.i64_in (s[k].toNat : Int) (by omega), shl_i64 _ _ hpl, or_i64 _ _ ha (shl_byte_lt _ _ hpl)]
      rw [hv]
      have Hv := Lib.hid (show (acc ||| s[k].toNat <<< placeI true r) = cutAcc s.data.toList true (k + 1) q by
        rw [cutAcc, if_pos Hq'.out.symm, Hacc.out, Hr'.out]
        simp [ByteArray.getElem_eq_getElem_data, hlt])
      clear hv hb hpl ha
      generalize (acc ||| s[k].toNat <<< placeI true r) = v at Hv ⊢
      change wpList _ _ _ _ _ wr.drew
      go_wp2
      go_roundw
      case rel =>
        refine ⟨k + 1, by omega, by go_num, ?_, (Hbel.out.setCell (Nat.le_refl _) _).drew⟩
        refine ((Hrow.out.set q _).drew).congr fun j _ => ?_
        by_cases hj : j = q
        · rw [if_pos hj, hj, Hv.out]
        · rw [if_neg hj, cutAcc, if_neg (by rw [← Hq'.out]; exact fun e => hj e.symm)]
      case measure => simp [intOf]; omega
    · have hke : k = s.size := by omega
      have Hrow := Lib.hid hrow
      have Hbel := Lib.hid hbel
      have Hke := Lib.hid hke
      clear hrow hbel hke
      go_wp2
      go_ret2
      refine ⟨w.heap.size, by rw [Hl4.out]; rfl, Nat.le_refl _, ?_, Hbel.out⟩
      rw [Hl4.out]
      have := Hrow.out
      rw [Hke.out] at this
      exact this

set_option maxHeartbeats 400000 in
set_option maxRecDepth 100000 in
theorem cut_false (s : ByteArray) (w : World) (h4 : s.size % 4 = 0) (hs : s.size ≤ 1000000) :
    Calls Tryd.prog 64 #[.string s, .bool false] w (CutPost s.data.toList false w) := by
  obtain ⟨n, hn⟩ : ∃ n, s.size = 4 * n := ⟨s.size / 4, by omega⟩
  have hl : s.data.toList.length = 4 * n := hn
  have hl4 : s.data.toList.length / 4 = n := by omega
  have hq : (s.size : Int) / 4 = (n : Int) := by omega
  have hq0 : (s.size : Int) % 4 = 0 := by omega
  have hnb : n ≤ 250000 := by omega
  have hmk := fun W => run_make_row' (P := Tryd.prog) 71 3 (.int .i64 0) 8 Tryd.underlying71 int_info rfl .i64 .i64 n (by omega) (by omega) W
  have Hn := Lib.hid hn
  have Hl := Lib.hid hl
  have Hl4 := Lib.hid hl4
  clear hn hl hl4
  go_enter Tryd.func64, Tryd.ntmps64
  go_wp2_with fail
  refine (places_false _).mono ?_
  rintro e w' ⟨rfl, rfl⟩
  go_wp2_with fail
  go_loopw [8, 21] (fun _ i wr => ∃ k : Nat, k ≤ s.size ∧ i = .int .i64 k ∧ wr.rowIs w.heap.size 3 n (fun j => .int .i64 (cutAcc s.data.toList false k j : Nat)) ∧ Below w.heap.size w wr) (fun _ i _ => s.size - (intOf i).toNat)
  case atStart =>
    refine ⟨0, Nat.zero_le _, rfl, ?_, (Below.refl _ _).alloc (Nat.le_refl _) _⟩
    exact World.rowIs_made _ _ _ _
  case round =>
    obtain ⟨k, hk, rfl, hrow, hbel⟩ := hrel
    by_cases hlt : k < s.size
    · have hc := hrow.cell (i := k / 4) (by have := Hn.out; omega)
      have hf := hrow.frozen (k / 4)
      have Hrow := Lib.hid hrow
      have Hbel := Lib.hid hbel
      obtain ⟨q, hq'⟩ : ∃ q, q = k / 4 := ⟨_, rfl⟩
      obtain ⟨r, hr'⟩ : ∃ r, r = k % 4 := ⟨_, rfl⟩
      have hqn : q < n := by have := Hn.out; omega
      have hr4 : r < 4 := by omega
      have hw1 : IntKind.i64.wrap ((k : Int) / 4) = (q : Int) := by rw [IntWalk.i64_in _ (by omega)]; omega
      have hw2 : (k : Int).tmod 4 = (r : Int) := by rw [Int.tmod_eq_emod_of_nonneg (by omega)]; omega
      rw [← hq'] at hc hf
      have Hq' := Lib.hid hq'
      have Hr' := Lib.hid hr'
      generalize hacc : cutAcc s.data.toList false k q = acc at hc
      have Hacc := Lib.hid hacc
      clear hrow hbel hq' hr' hacc
      go_wp2_with fail
      go_still_tail 16, (by kernel_rfl)
      still_call (place_false r _ hr4)
      repeat still_step
      try refine wpStill_nil ?_
      have hb := s[k].toNat_lt
      have ha : acc < 4294967296 := by rw [← Hacc.out]; exact cutAcc_lt _ _ _ _
      have hpl := placeI_le false r hr4
      have hv : bits .or .i64 (acc : Int) (IntKind.i64.wrap (IntKind.i64.wrap (s[k].toNat : Int) * 2 ^ min (placeI false r) 64)) = ((acc ||| s[k].toNat <<< placeI false r : Nat) : Int) := by
        rw [IntWalk.i64_in (s[k].toNat : Int) (by omega), shl_i64 _ _ hpl, or_i64 _ _ ha (shl_byte_lt _ _ hpl)]
      rw [hv]
      have Hv := Lib.hid (show (acc ||| s[k].toNat <<< placeI false r) = cutAcc s.data.toList false (k + 1) q by
        rw [cutAcc, if_pos Hq'.out.symm, Hacc.out, Hr'.out]
        simp [ByteArray.getElem_eq_getElem_data, hlt])
      clear hv hb hpl ha
      generalize (acc ||| s[k].toNat <<< placeI false r) = v at Hv ⊢
      change wpList _ _ _ _ _ wr.drew
      go_wp2
      go_roundw
      case rel =>
        refine ⟨k + 1, by omega, by go_num, ?_, (Hbel.out.setCell (Nat.le_refl _) _).drew⟩
        refine ((Hrow.out.set q _).drew).congr fun j _ => ?_
        by_cases hj : j = q
        · rw [if_pos hj, hj, Hv.out]
        · rw [if_neg hj, cutAcc, if_neg (by rw [← Hq'.out]; exact fun e => hj e.symm)]
      case measure => simp [intOf]; omega
    · have hke : k = s.size := by omega
      have Hrow := Lib.hid hrow
      have Hbel := Lib.hid hbel
      have Hke := Lib.hid hke
      clear hrow hbel hke
      go_wp2
      go_ret2
      refine ⟨w.heap.size, by rw [Hl4.out]; rfl, Nat.le_refl _, ?_, Hbel.out⟩
      rw [Hl4.out]
      have := Hrow.out
      rw [Hke.out] at this
      exact this
end Go.Proofs.YtkeeejkijbaooaaDoor
