/-
  Contracts of the laws' views, far, and of keyholeref09.Same.
-/
import Derived.Test.YtkldllnlakaehaaGreatDoorFront
import Derived.Test.YtkldllnlakaehaaGreatDoorViewT
namespace Go.Proofs.YtkldllnlakaehaaGreatDoor
open Go.RowKit
set_option linter.unusedVariables false
set_option maxRecDepth 100000
set_option maxHeartbeats 2000000

theorem far5 : (bs (List.replicate 32 (5 : UInt8))).size = 32 := by rfl
theorem remap_two : remapV (List.replicate 32 5) (List.replicate 32 5) (List.replicate 32 5) 3 1 [true, true] = .tuple #[.string ⟨#[]⟩, .int .i64 90] := by
  rw [remapV, if_pos (by left; decide)]
theorem remap_one : remapV (List.replicate 32 5) (List.replicate 32 5) (List.replicate 32 5) 3 1 [true] = .tuple #[.string (bs (List.replicate 32 5)), .int .i64 0] := by
  rw [remapV, if_neg (by decide)]
  have h := pos_facts [true] 3 1 (by omega) (by decide)
  rw [tape_back (List.replicate 32 5) (List.replicate 32 5) 3 1 _ (by omega) h.1 h.2.1 h.2.2.1 (by simp)]

theorem views_any (w : World) : Calls Tryz.prog 6 #[] w fun e w' => e = .returned (.bool true) ∧ Below w.heap.size w w' := by
  obtain ⟨s, hs⟩ : ∃ s, s = bs (List.replicate 32 (5 : UInt8)) := ⟨_, rfl⟩
  have Hs32 := Lib.hid (show s.size = 32 by rw [hs]; rfl)
  have Hsd := Lib.hid (show s.data.toList = List.replicate 32 5 by rw [hs]; rfl)
  have Hm := Lib.hid (many_any 5 32 w (by omega))
  rw [← hs] at Hm
  have Hs := Lib.hid hs
  clear hs
  go_enter Tryz.func6, Tryz.ntmps6
  go_wp2_with fail
  refine Calls.mono (by exact Hm.out) ?_
  rintro e w1 ⟨rfl, hb1⟩
  go_wp2_with fail
  refine Calls.mono (by exact remap_yes s s s 3 1 [true, true] _ 2 2 _ Hs32.out Hs32.out (by rw [Hs32.out]) (by omega) (by omega) (rd_new _ _ _) rfl (by simp)) ?_
  rintro e w2 ⟨rfl, hb2⟩
  rw [Hsd.out, remap_two]
  replace hb2 := Below.chain_alloc hb1 hb2
  clear hb1
  go_wp2_with fail
  refine Calls.mono (by exact remap_yes s s s 3 1 [true] _ 1 1 _ Hs32.out Hs32.out (by rw [Hs32.out]) (by omega) (by omega) (rd_new _ _ _) rfl (by simp)) ?_
  rintro e w3 ⟨rfl, hb3⟩
  rw [Hsd.out, remap_one, ← Hs.out]
  replace hb3 := Below.chain_alloc hb2 hb3
  clear hb2
  go_wp2_with fail
  refine (block_any _ _ (by decide)).mono ?_
  rintro e w4 ⟨rfl, hb4⟩
  replace hb4 := Below.chain hb3 hb4
  clear hb3
  rw [show bs (frontL 12 (⟨#[49, 50, 51, 52, 53, 54, 55, 56, 57, 48, 49, 50, 97, 98, 99]⟩ : ByteArray).data.toList) = ⟨#[49, 50, 51, 52, 53, 54, 55, 56, 57, 48, 49, 50, 0, 0, 0]⟩ by rfl]
  go_wp2_with fail
  refine (frame_any _ _ (by decide)).mono ?_
  rintro e w5 ⟨rfl, hb5⟩
  replace hb5 := Below.chain hb4 hb5
  clear hb4
  rw [show bs (frontL 8 (⟨#[49, 50, 51, 52, 53, 54, 55, 56, 120]⟩ : ByteArray).data.toList) = ⟨#[49, 50, 51, 52, 53, 54, 55, 56, 0]⟩ by rfl]
  go_wp2_with fail
  refine (frame_any _ _ (by decide)).mono ?_
  rintro e w6 ⟨rfl, hb6⟩
  replace hb6 := Below.chain hb5 hb6
  clear hb5
  rw [show bs (frontL 8 (⟨#[97, 98, 99]⟩ : ByteArray).data.toList) = ⟨#[97, 98, 99]⟩ by rfl]
  go_wp2_with fail
  go_ret
  exact ⟨by simp, hb6⟩

end Go.Proofs.YtkldllnlakaehaaGreatDoor
