/-
  Contract of nonce.Bytes: twelve bytes.
-/
import Derived.Test.YtkldllnlakaehaaGreatDoorSm
import Derived.Test.YtkldllnlakaehaaGreatDoorGen
namespace Go.Proofs.YtkldllnlakaehaaGreatDoor
open Go.RowKit
set_option linter.unusedVariables false
set_option linter.unusedSimpArgs false
set_option maxRecDepth 100000
set_option maxHeartbeats 2000000

theorem u8_shr (n k : Nat) : ∃ u : UInt8, (n : Int) / 2 ^ k % 256 = ((u.toNat : Nat) : Int) := by
  refine ⟨UInt8.ofNat (n / 2 ^ k % 256), ?_⟩
  rw [UInt8.toNat_ofNat']
  have : n / 2 ^ k % 256 % 2 ^ 8 = n / 2 ^ k % 256 := Nat.mod_eq_of_lt (Nat.mod_lt _ (by omega))
  rw [this]
  simp
theorem bytes_new (w : World) (n : Nat) : BytAt (w.alloc (.cells (madeCells #[.int .u8 0] n) 5)) w.heap.size (List.replicate n 0) := by
  have hg := heap_alloc_new w (.cells (madeCells #[.int .u8 0] n) 5)
  intro i hi
  rw [List.length_replicate] at hi
  refine ⟨?_, by unfold World.frozen?; rw [hg]; simp⟩
  rw [cell_of_row _ _ _ _ _ _ hg, ← Array.getElem?_toList, toList_madeCells_one, List.getElem?_replicate, if_pos hi, List.getD_eq_getElem?_getD, List.getElem?_replicate, if_pos hi]
  rfl
theorem bytes_any (n : Nat) (w : World) (hn : n ≤ 1000000000) :
    Calls Tryz.prog 10 #[.int .i64 (n : Nat)] w fun e w' => (∃ b : ByteArray, e = .returned (.tuple #[.string b, .int .i64 0]) ∧ b.size = 12) ∧ Below w.heap.size w w' := by
  have e1 : decide ((n : Int) < 0) = false := by simp
  have e2 : decide ((n : Int) > 1000000000) = false := decide_eq_false (by omega)
  have hmk : ∀ W, (Instr.makeSlice 64 (.int .i64 12) (.int .i64 12)).run Tryz.prog W = .ok (.slice (some ⟨W.heap.size, 0, none⟩) 12 12) (W.alloc (.cells (madeCells #[.int .u8 0] 12) 5)) := fun W => run_make_row' (P := Tryz.prog) 64 5 (.int .u8 0) 1 Tryz.underlying64 uint8_info rfl .i64 .i64 12 (by omega) (by omega) W
  go_enter Tryz.func10, Tryz.ntmps10
  go_wp2_with fail
  go_loopw [13] (fun x wr => ∃ (i : Nat) (l : List UInt8), i ≤ 8 ∧ x = .int .i64 (i : Nat) ∧ l.length = 12 ∧ BytAt wr w.heap.size l ∧ Below w.heap.size w wr) (fun x _ => 8 - (intOf x).toNat)
  case atStart => exact ⟨0, List.replicate 12 0, by omega, rfl, by simp, bytes_new w 12, (Below.refl _ _).alloc (Nat.le_refl _) _⟩
  case round =>
    obtain ⟨i, l, hi, rfl, hl, hb, hW⟩ := hrel
    have Hl := Lib.hid hl
    have HBt := Lib.hid hb
    have HW := Lib.hid hW
    by_cases hlt : i < 8
    · have d1 : decide ((i : Int) < 8) = true := by simp; omega
      have hidx := hb (11 - i) (by omega)
      obtain ⟨c1, f1⟩ := hidx
      have hw1 : (11 - (i : Int)) = ((11 - i : Nat) : Int) := by omega
      obtain ⟨u, hu⟩ := u8_shr n (8 * i)
      clear hl hb hW
      go_wp2_with fail
      go_roundw
      case rel => exact ⟨i + 1, l.set (11 - i) u, by omega, by go_num, by rw [List.length_set]; exact Hl.out, HBt.out.set (11 - i) u, HW.out.setCell (p := ⟨w.heap.size, 11 - i, none⟩) (Nat.le_refl _) _⟩
      case measure => simp [intOf]; omega
    · obtain rfl : i = 8 := by omega
      have d1 : decide ((8 : Int) < 8) = false := by decide
      have hcv := conv_byt hb 12 12 hl.symm
      clear hb hW
      go_wp2_with fail
      go_ret2
      exact ⟨⟨bs l, rfl, by rw [bs_size]; exact Hl.out⟩, HW.out⟩
end Go.Proofs.YtkldllnlakaehaaGreatDoor
