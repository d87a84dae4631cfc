/-
  The examples of chapter 4: keyholelaw04.streams returns true; keyholeref01.Many.
-/
import Derived.Test.YtdmppngjmpmigaaDoorCrypt
namespace Go.Proofs.YtdmppngjmpmigaaDoor
open Go.RowKit
set_option linter.unusedVariables false

set_option maxHeartbeats 400000 in
theorem many_any (c : Int) (n : Nat) (w : World) (hc0 : 0 ≤ c) (hc1 : c < 256) (hn : n ≤ 100000) :
    Calls Tryd.prog 13 #[.int .u8 c, .int .i64 n] w fun e w' => e = .returned (.string (bs (List.replicate n (UInt8.ofNat c.toNat)))) ∧ Below w.heap.size w w' := by
  have hmk := fun W => run_make_row' (P := Tryd.prog) 34 5 (.int .u8 0) 1 Tryd.underlying34 byte_info rfl .i64 .i64 n (by omega) (by omega) W
  go_enter Tryd.func13, Tryd.ntmps13
  go_wp2_with fail
  go_loopw [6] (fun i wr => ∃ k : Nat, k ≤ n ∧ i = .int .i64 k ∧ wr.rowIs w.heap.size 5 n (fun j => .int .u8 (if j < k then c else 0)) ∧ Below w.heap.size w wr) (fun i _ => n - (intOf i).toNat)
  case atStart =>
    refine ⟨0, Nat.zero_le _, rfl, ?_, (Below.refl _ _).alloc (Nat.le_refl _) _⟩
    exact (World.rowIs_made _ _ _ _).congr fun j _ => by simp
  case round =>
    obtain ⟨k, hk, rfl, hrow, hbel⟩ := hrel
    by_cases hlt : k < n
    · have hc := hrow.cell hlt
      have hf := hrow.frozen k
      have Hrow := Lib.hid hrow
      have Hbel := Lib.hid hbel
      clear hrow hbel
      go_wp2_with fail
      go_roundw
      case rel =>
        refine ⟨k + 1, by omega, by go_num, ?_, Hbel.out.setCell (Nat.le_refl _) _⟩
        refine (Hrow.out.set k _).congr fun j _ => ?_
        by_cases hj : j = k
        · rw [if_pos hj, hj, if_pos (by omega)]
        · rw [if_neg hj]
          by_cases hj2 : j < k
          · rw [if_pos hj2, if_pos (by omega)]
          · rw [if_neg hj2, if_neg (by omega)]
      case measure => simp [intOf]; omega
    · obtain rfl : k = n := by omega
      have hB : BytAt wr w.heap.size (List.replicate k (UInt8.ofNat c.toNat)) := by
        intro i hi
        rw [List.length_replicate] at hi
        refine ⟨?_, hrow.frozen i⟩
        rw [hrow.cell hi, if_pos hi]
        have e : (((List.replicate k (UInt8.ofNat c.toNat)).getD i 0).toNat : Int) = c := by
          have : (List.replicate k (UInt8.ofNat c.toNat)).getD i 0 = UInt8.ofNat c.toNat := by simp [hi]
          rw [this, UInt8.toNat_ofNat']
          omega
        rw [e]
      have hcvb := conv_byt hB k k (by simp)
      have Hbel := Lib.hid hbel
      clear hrow hbel hB
      generalize hres : List.replicate k (UInt8.ofNat c.toNat) = res at hcvb
      have Hres := Lib.hid hres
      clear hres
      go_wp2_with fail
      go_ret
      rw [Hres.out]
      exact ⟨rfl, Hbel.out⟩

theorem exTurn : turnI 286331153 16909060 2609737539 19088743 = (3928658676, 3407673550, 1166100270, 1484899515) := by decide +kernel
theorem exBlock : (blockL (List.replicate 32 0) (List.replicate 12 0) 0).take 4 = [118, 184, 224, 173] := by decide +kernel

set_option maxHeartbeats 400000 in
theorem streams_any (w : World) (hT : Turns w) :
    Calls Tryd.prog 7 #[] w fun e w' => e = .returned (.bool true) ∧ Below w.heap.size w w' := by
  have HT := Lib.hid hT
  clear hT
  go_enter Tryd.func7, Tryd.ntmps7
  go_wp2_with fail
  refine (turn_any 286331153 16909060 2609737539 19088743 w ⟨by omega, by omega⟩ ⟨by omega, by omega⟩ ⟨by omega, by omega⟩ ⟨by omega, by omega⟩).mono ?_
  rintro e w1 ⟨rfl, hw⟩
  rw [exTurn]
  have HW := Lib.hid hw
  clear hw
  go_wp2_with fail
  refine (many_any 0 32 w1 (by omega) (by omega) (by omega)).mono ?_
  rintro e w2 ⟨rfl, hw2⟩
  replace HW := Lib.hid (Below.chain HW.out hw2)
  clear hw2
  rw [show (UInt8.ofNat (0 : Int).toNat) = 0 from rfl]
  obtain ⟨k32, hk32⟩ : ∃ k, k = bs (List.replicate 32 0) := ⟨_, rfl⟩
  rw [← hk32]
  have Hk32 := Lib.hid hk32
  clear hk32
  go_wp2_with fail
  refine (many_any 0 12 w2 (by omega) (by omega) (by omega)).mono ?_
  rintro e w3 ⟨rfl, hw3⟩
  replace HW := Lib.hid (Below.chain HW.out hw3)
  clear hw3
  rw [show (UInt8.ofNat (0 : Int).toNat) = 0 from rfl]
  obtain ⟨k12, hk12⟩ : ∃ k, k = bs (List.replicate 12 0) := ⟨_, rfl⟩
  rw [← hk12]
  have Hk12 := Lib.hid hk12
  clear hk12
  go_wp2_with fail
  refine (block_yes k32 k12 0 w3 (HT.out.below HW.out) (by rw [Hk32.out]; simp [bs_size]) (by rw [Hk12.out]; simp [bs_size]) ⟨by omega, by omega⟩).mono ?_
  rintro e w4 ⟨rfl, hw4⟩
  replace HW := Lib.hid (Below.chain HW.out hw4)
  clear hw4
  obtain ⟨s, hs⟩ : ∃ s, s = bs (blockL k32.data.toList k12.data.toList 0) := ⟨_, rfl⟩
  rw [← hs]
  have hs1 : s.size = 64 := by rw [hs, bs_size, blockL, joinL_length, sumsTo_len]
  have hs2 : s.extract 0 4 = ⟨#[118, 184, 224, 173]⟩ := by
    rw [hs, extract_bs, bs_data, Hk32.out, Hk12.out, bs_data, bs_data, exBlock]
    rfl
  have hs3 : (4 : Int) ≤ (s.size : Int) := by omega
  have hs1B : ((s.size : Int) == 64) = true := beq_iff_eq.2 (by omega)
  clear hs hs1
  go_wp2_with fail
  refine (block_no ⟨#[]⟩ ⟨#[]⟩ 0 w4 (by decide) (by decide) (fun h => absurd h.1 (by decide))).mono ?_
  rintro e w5 ⟨rfl, hw5⟩
  replace HW := Lib.hid (Below.chain HW.out hw5)
  clear hw5
  go_wp2_with fail
  go_ret
  exact ⟨rfl, HW.out⟩
end Go.Proofs.YtdmppngjmpmigaaDoor
