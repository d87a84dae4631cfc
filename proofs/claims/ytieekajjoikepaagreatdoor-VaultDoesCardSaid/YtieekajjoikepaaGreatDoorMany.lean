/-
  Contract of keyholeref01.Many: a byte, many times.
-/
import Derived.Test.YtieekajjoikepaaGreatDoorGen
namespace Go.Proofs.YtieekajjoikepaaGreatDoor
open Go.RowKit
set_option linter.unusedVariables false

set_option maxHeartbeats 400000 in
theorem many_any (c : UInt8) (n : Nat) (w : World) (hn : n ≤ 100000) :
    Calls Tryz.prog 38 #[.int .u8 (c.toNat : Int), .int .i64 (n : Int)] w fun e w' => e = .returned (.string (bs (List.replicate n c))) ∧ Below w.heap.size w w' := by
  have hmk := fun W => run_make_row' (P := Tryz.prog) 72 5 (.int .u8 0) 1 Tryz.underlying72 uint8_info rfl .i64 .i64 n (by omega) (by omega) W
  go_enter Tryz.func38, Tryz.ntmps38
  go_wp2_with fail
  go_loopw [6] (fun i wr => ∃ k : Nat, k ≤ n ∧ i = .int .i64 k ∧ wr.rowIs w.heap.size 5 n (fun j => .int .u8 (if j < k then (c.toNat : Int) else 0)) ∧ Below w.heap.size w wr) (fun i _ => n - (intOf i).toNat)
  case atStart =>
    refine ⟨0, Nat.zero_le _, rfl, ?_, (Below.refl _ _).alloc (Nat.le_refl _) _⟩
    exact World.rowIs_made _ _ _ _
  case round =>
    obtain ⟨k, hk, rfl, hrow, hb⟩ := hrel
    by_cases hlt : k < n
    · have hc := hrow.cell (i := k) hlt
      have hf := hrow.frozen k
      have Hrow := Lib.hid hrow
      clear hrow
      go_wp2_with fail
      go_roundw
      case rel =>
        refine ⟨k + 1, by omega, by go_num, ?_, hb.setCell (Nat.le_refl _) _⟩
        refine (Hrow.out.set k _).congr fun j _ => ?_
        by_cases hj : j = k
        · rw [if_pos hj, if_pos (by omega)]
        · rw [if_neg hj]
          by_cases h2 : j < k
          · rw [if_pos h2, if_pos (by omega)]
          · rw [if_neg h2, if_neg (by omega)]
      case measure => simp [intOf]; omega
    · obtain rfl : k = n := by omega
      have hrd : Rd wr (some ⟨w.heap.size, 0, none⟩) (bytesV (List.replicate k c)) := fun j u hu => by
        have hj : j < k := by
          rcases Nat.lt_or_ge j k with h | h
          · exact h
          · simp [bytesV, h] at hu
        refine ⟨_, _, rfl, ?_⟩
        rw [Nat.zero_add, hrow.cell hj]
        simpa [bytesV, hj] using hu
      have hcv := conv_rd hrd k k (by simp)
      clear hrow hrd
      go_wp2_with fail
      go_ret
      exact ⟨rfl, hb⟩
end Go.Proofs.YtieekajjoikepaaGreatDoor
