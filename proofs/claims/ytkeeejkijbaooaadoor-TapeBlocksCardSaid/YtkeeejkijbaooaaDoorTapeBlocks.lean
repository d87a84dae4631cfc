/-
  The walk of the law TapeBlocks.
-/
import Derived.Test.YtkeeejkijbaooaaDoorTapesB
import Derived.Test.YtkeeejkijbaooaaDoorTapeNew
import Derived.Test.YtkeeejkijbaooaaDoorMany
namespace Go.Proofs.YtkeeejkijbaooaaDoor
open Go.RowKit
set_option linter.unusedVariables false

theorem made_part (key : List UInt8) (i : Nat) (h : i < 1024) : ((madeL key).drop (64 * i)).take 64 = blockL key nonce0 (i : Nat) := madeL_at key i h

set_option maxHeartbeats 1000000 in
set_option maxRecDepth 100000 in
theorem tapeBlocks_law (seed : ByteArray) (hs : seed.size ≤ maxLen) (n : Int) (w : World) (hT : Turns w) (hR : Rounds w) :
    Calls Tryd.prog 3 #[.string seed, .int .i64 n] w fun e w' => e = .returned (.bool true) ∧ Below w.heap.size w w' := by
  unfold maxLen at hs
  have HT := Lib.hid (Tabs.of hT hR)
  clear hT hR
  by_cases hfar : 300 < seed.size ∨ n < 0 ∨ 20 < n
  · by_cases h1 : 300 < seed.size
    · clear hfar
      go_enter Tryd.func3, Tryd.ntmps3
      go_wp2_with fail
      refine (tapes_any w).mono ?_
      rintro e w1 ⟨rfl, hb⟩
      go_wp2_with fail
      go_ret
      exact ⟨rfl, hb⟩
    · by_cases h2 : n < 0
      · clear hfar
        go_enter Tryd.func3, Tryd.ntmps3
        go_wp2_with fail
        refine (tapes_any w).mono ?_
        rintro e w1 ⟨rfl, hb⟩
        go_wp2_with fail
        go_ret
        exact ⟨rfl, hb⟩
      · have h3 : 20 < n := by omega
        clear hfar
        go_enter Tryd.func3, Tryd.ntmps3
        go_wp2_with fail
        refine (tapes_any w).mono ?_
        rintro e w1 ⟨rfl, hb⟩
        go_wp2_with fail
        go_ret
        exact ⟨rfl, hb⟩
  · have h1 : seed.size ≤ 300 := by omega
    have h2 : 0 ≤ n := by omega
    have h3 : n ≤ 20 := by omega
    clear hfar
    obtain ⟨n, rfl⟩ := Int.eq_ofNat_of_zero_le h2
    have d1 : decide (300 < (seed.size : Int)) = false := by simp; omega
    have d2 : decide ((n : Int) < 0) = false := by simp
    have d3 : decide ((20 : Int) < (n : Int)) = false := by simp; omega
    have Hkl := Lib.hid (sumL_len seed.data.toList)
    go_enter Tryd.func3, Tryd.ntmps3
    go_wp2_with fail
    refine (new_any w.heap.size seed w HT.out (by omega) (Nat.le_refl _)).mono ?_
    rintro e w1 ⟨t, rfl, ht, hI, hb⟩
    have HI := Lib.hid hI
    replace HT := Lib.hid (HT.out.below hb)
    clear hI
    go_wp2_with fail
    go_loopw [6] (fun i wr => ∃ k : Nat, k ≤ n ∧ i = .int .i64 k ∧ IsTape w.heap.size wr t (madeL (sumL seed.data.toList)) (64 * k) ∧ Tabs w.heap.size wr ∧ Below w.heap.size w wr) (fun i _ => n - (intOf i).toNat)
    case atStart => exact ⟨0, by omega, rfl, HI.out, HT.out, hb⟩
    case round =>
      obtain ⟨k, hk, rfl, hI, hTr, hbr⟩ := hrel
      replace HI := Lib.hid hI
      replace HT := Lib.hid hTr
      clear hI hTr hb
      by_cases hlt : k < n
      · go_wp2_with fail
        refine (sum_any seed wr HT.out.rounds (by omega)).mono ?_
        rintro e w2 ⟨rfl, hb2⟩
        replace HI := Lib.hid (HI.out.below hb2)
        replace HT := Lib.hid (HT.out.below hb2)
        replace hbr := Below.chain hbr hb2
        clear hb2
        go_wp2_with fail
        refine (many_any 0 12 w2 (by omega)).mono ?_
        rintro e w3 ⟨rfl, hb3⟩
        replace HI := Lib.hid (HI.out.below hb3)
        replace HT := Lib.hid (HT.out.below hb3)
        replace hbr := Below.chain hbr hb3
        clear hb3
        go_wp2_with fail
        refine (block_yes (bs (sumL seed.data.toList)) (bs nonce0) k w3 HT.out.turns Hkl.out rfl ⟨by omega, by omega⟩).mono ?_
        rintro e w4 ⟨rfl, hb4⟩
        replace HI := Lib.hid (HI.out.below hb4)
        replace HT := Lib.hid (HT.out.below hb4)
        replace hbr := Below.chain hbr hb4
        clear hb4
        go_wp2_with fail
        refine (take_any t _ (64 * k) 64 w4 HI.out (by rw [madeL_len]; omega)).mono ?_
        rintro e w5 ⟨rfl, hI5, hG⟩
        rw [made_part _ k (by omega)]
        replace HT := Lib.hid (HT.out.tape HI.out hG)
        replace hbr := hbr.trans (grownBy_below hG ht hbr.size)
        replace HI := Lib.hid hI5
        clear hI5 hG
        rw [show bs (blockL (bs (sumL seed.data.toList)).data.toList (bs nonce0).data.toList (k : Int)) = bs (blockL (sumL seed.data.toList) nonce0 (k : Int)) from rfl]
        generalize bs (blockL (sumL seed.data.toList) nonce0 (k : Int)) = b
        go_wp2_with fail
        go_roundw
        case rel => exact ⟨k + 1, by omega, by go_num, by rw [Nat.mul_succ]; exact HI.out, HT.out, hbr⟩
        case measure => simp [intOf]; omega
      · obtain rfl : k = n := by omega
        go_wp2_with fail
        refine (tapes_any wr).mono ?_
        rintro e w2 ⟨rfl, hb2⟩
        replace HI := Lib.hid (HI.out.below hb2)
        replace hbr := Below.chain hbr hb2
        go_wp2_with fail
        refine (taken_any t _ (64 * k) w2 HI.out).mono ?_
        rintro e w7 ⟨rfl, rfl⟩
        have h64 : (((64 * k : Nat) : Int) == 64 * (k : Int)) = true := by simp
        go_wp2_with fail
        go_ret
        exact ⟨rfl, hbr⟩
end Go.Proofs.YtkeeejkijbaooaaDoor
