/-
  The examples of chapter 1: keyholelaw01.words returns true.
-/
import Derived.Test.YtdmppngjmpmigaaInts
namespace Go.Proofs.Ytdmppngjmpmigaa
open Go.RowKit

theorem rowIs_below {w w' : World} {b n : Nat} {t : TypeId} {f : Nat → Value} (h : w.rowIs b t n f) (hb : Below w.heap.size w w') : w'.rowIs b t n f :=
  h.of_block (hb.block b h.lt)

theorem rd_row {w : World} {b n : Nat} {t : TypeId} {f : Nat → Value} (h : w.rowIs b t n f) : Rd w (some ⟨b, 0, none⟩) ((List.range n).map f) := by
  intro i u hu
  refine ⟨_, _, rfl, ?_⟩
  by_cases hi : i < n
  · rw [Nat.zero_add, h.cell hi]
    simpa [hi] using hu
  · simp [hi] at hu

set_option maxHeartbeats 1000000 in
theorem words_any (w : World) :
    Calls Try.prog 7 #[] w fun e w' => e = .returned (.bool true) ∧ Below w.heap.size w w' := by
  have e1 : addI [4294967295, 2] = 1 := by decide +kernel
  have e2 : xorI 12 10 = 6 := by decide +kernel
  have e3 : andI 12 10 = 8 := by decide +kernel
  have e4 : rotI 2147483649 1 = 3 := by decide +kernel
  have E5 := Lib.hid (show (List.range 1).map (fun j => Value.int .i64 (cutAcc [1, 2, 3, 4] true 4 j : Nat)) = ints [16909060] from rfl)
  have E6 := Lib.hid (show (List.range 1).map (fun j => Value.int .i64 (cutAcc [1, 2, 3, 4] false 4 j : Nat)) = ints [67305985] from rfl)
  go_enter Try.func7, Try.ntmps7
  go_wp2_with fail
  refine (add_b _ _ _ [4294967295, 2] _ (rd_new w _ _) rfl (by simp) (by decide +kernel)).mono ?_
  rintro e w1 ⟨rfl, hb⟩
  rw [e1]
  replace hb := Below.chain_alloc (Below.refl _ _) hb
  go_wp2_with fail
  refine (xor_any 12 10 _ (by decide +kernel)).mono ?_
  rintro e w2 ⟨rfl, hb2⟩
  rw [e2]
  replace hb := Below.chain hb hb2
  clear hb2
  go_wp2_with fail
  refine (and_any 12 10 _ (by decide +kernel)).mono ?_
  rintro e w3 ⟨rfl, hb3⟩
  rw [e3]
  replace hb := Below.chain hb hb3
  clear hb3
  go_wp2_with fail
  refine (rot_any 2147483649 1 _ (by decide +kernel) (by decide) (by decide)).mono ?_
  rintro e w4 ⟨rfl, hb4⟩
  rw [e4]
  replace hb := Below.chain hb hb4
  clear hb4
  go_wp2_with fail
  refine (cut_true ⟨#[1, 2, 3, 4]⟩ _ (by decide) (by decide)).mono ?_
  rintro e w5 ⟨g5, rfl, hg5, hr5, hb5⟩
  replace hb := Below.chain hb hb5
  clear hb5 hg5
  have R5 := Lib.hid hr5
  clear hr5
  go_wp2_with fail
  refine (cut_false ⟨#[1, 2, 3, 4]⟩ _ (by decide) (by decide)).mono ?_
  rintro e w6 ⟨g6, rfl, hg6, hr6, hb6⟩
  replace hb := Below.chain hb hb6
  replace R5 := Lib.hid (rowIs_below R5.out hb6)
  clear hb6 hg6
  have R6 := Lib.hid hr6
  clear hr6
  go_wp2_with fail
  refine (cut_none ⟨#[97, 98, 99]⟩ true _ (by decide) (by decide)).mono ?_
  rintro e w7 ⟨rfl, rfl⟩
  go_wp2_with fail
  refine (ints_same _ _ _ _ _ _ [16909060] _ (by rw [← E5.out]; exact rd_row (R5.out.alloc _)) (rd_new w6 _ _) rfl rfl (by decide)).mono ?_
  rintro e w7 ⟨rfl, hb7⟩
  replace hb := Below.chain_alloc hb hb7
  replace R6 := Lib.hid (rowIs_below (R6.out.alloc _) hb7)
  clear hb7 R5
  go_wp2_with fail
  refine (ints_same _ _ _ _ _ _ [67305985] _ (by rw [← E6.out]; exact rd_row (R6.out.alloc _)) (rd_new w7 _ _) rfl rfl (by decide)).mono ?_
  rintro e w8 ⟨rfl, hb8⟩
  replace hb := Below.chain_alloc hb hb8
  clear hb8 R6
  go_wp2_with fail
  refine (is_b _ _ _ [0, 4294967295] _ (rd_new w8 _ _) rfl (by simp)).mono ?_
  rintro e w9 ⟨rfl, hb9⟩
  rw [show wordsB [0, 4294967295] = true by decide +kernel]
  replace hb := Below.chain_alloc hb hb9
  clear hb9
  go_wp2_with fail
  refine (is_b _ _ _ [1, -1] _ (rd_new w9 _ _) rfl (by simp)).mono ?_
  rintro e w10 ⟨rfl, hb10⟩
  rw [show wordsB [1, -1] = false by decide +kernel]
  replace hb := Below.chain_alloc hb hb10
  clear hb10
  go_wp2_with fail
  go_ret
  exact ⟨rfl, hb⟩
end Go.Proofs.Ytdmppngjmpmigaa
